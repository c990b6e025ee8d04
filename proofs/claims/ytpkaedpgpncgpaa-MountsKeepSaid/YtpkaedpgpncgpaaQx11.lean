-- Written by a program of this session (xprint) out of the translation; over contracts proved by hand.
import Derived.Test.YtpkaedpgpncgpaaQx0
import Derived.Test.YtpkaedpgpncgpaaSq
import Derived.Test.YtpkaedpgpncgpaaQx1
import Derived.Test.YtpkaedpgpncgpaaQx5
import Derived.Test.YtpkaedpgpncgpaaQx6
import Derived.Test.YtpkaedpgpncgpaaQx7
import Derived.Test.YtpkaedpgpncgpaaQx8
import Derived.Test.YtpkaedpgpncgpaaQx10
import Derived.Test.YtpkaedpgpncgpaaMBegin4
import Derived.Test.YtpkaedpgpncgpaaMFlip2
namespace Go.Proofs.Ytpkaedpgpncgpaa.MBegin
end Go.Proofs.Ytpkaedpgpncgpaa.MBegin
namespace Go.Proofs.Ytpkaedpgpncgpaa.Split
end Go.Proofs.Ytpkaedpgpncgpaa.Split
namespace Go.Proofs.Ytpkaedpgpncgpaa.Q
open Go.Proofs.Ytpkaedpgpncgpaa.MBegin Go.Proofs.Ytpkaedpgpncgpaa.Split
set_option linter.unnecessarySimpa false
open Go.RowKit Go.Proofs.YtpkaedpgpncgpaaW.PrintWords Go.Proofs.YtpkaedpgpncgpaaW.PrintLast Go.Proofs.YtpkaedpgpncgpaaW.PrintMore
attribute [local go_sem] max2_int min2_int max_two min_two max_three min_three max_four min_four   -- for this text's walks alone
set_option linter.unusedVariables false
set_option linter.unusedSimpArgs false

attribute [local go_sem high] eqA27
abbrev x11tr23_0 : Array Bool := #[false, false, false, false, false, false, false, false, false, false, false, false, false, false, false, false, false, false, false, false, false, false, false]
abbrev x11tr23_1 : Array Bool := #[true, false, false, false, false, false, false, false, false, false, false, false, false, false, false, false, false, false, false, false, false, false, false]
abbrev x11tr23_10 : Array Bool := #[true, true, true, true, true, true, true, true, true, true, false, false, false, false, false, false, false, false, false, false, false, false, false]
abbrev x11tr23_11 : Array Bool := #[true, true, true, true, true, true, true, true, true, true, true, false, false, false, false, false, false, false, false, false, false, false, false]
abbrev x11tr23_12 : Array Bool := #[true, true, true, true, true, true, true, true, true, true, true, true, false, false, false, false, false, false, false, false, false, false, false]
abbrev x11tr23_13 : Array Bool := #[true, true, true, true, true, true, true, true, true, true, true, true, true, false, false, false, false, false, false, false, false, false, false]
abbrev x11tr23_14 : Array Bool := #[true, true, true, true, true, true, true, true, true, true, true, true, true, true, false, false, false, false, false, false, false, false, false]
abbrev x11tr23_15 : Array Bool := #[true, true, true, true, true, true, true, true, true, true, true, true, true, true, true, false, false, false, false, false, false, false, false]
abbrev x11tr23_16 : Array Bool := #[true, true, true, true, true, true, true, true, true, true, true, true, true, true, true, true, false, false, false, false, false, false, false]
abbrev x11tr23_17 : Array Bool := #[true, true, true, true, true, true, true, true, true, true, true, true, true, true, true, true, true, false, false, false, false, false, false]
abbrev x11tr23_18 : Array Bool := #[true, true, true, true, true, true, true, true, true, true, true, true, true, true, true, true, true, true, false, false, false, false, false]
abbrev x11tr23_19 : Array Bool := #[true, true, true, true, true, true, true, true, true, true, true, true, true, true, true, true, true, true, true, false, false, false, false]
abbrev x11tr23_2 : Array Bool := #[true, true, false, false, false, false, false, false, false, false, false, false, false, false, false, false, false, false, false, false, false, false, false]
abbrev x11tr23_20 : Array Bool := #[true, true, true, true, true, true, true, true, true, true, true, true, true, true, true, true, true, true, true, true, false, false, false]
abbrev x11tr23_21 : Array Bool := #[true, true, true, true, true, true, true, true, true, true, true, true, true, true, true, true, true, true, true, true, true, false, false]
abbrev x11tr23_22 : Array Bool := #[true, true, true, true, true, true, true, true, true, true, true, true, true, true, true, true, true, true, true, true, true, true, false]
abbrev x11tr23_23 : Array Bool := #[true, true, true, true, true, true, true, true, true, true, true, true, true, true, true, true, true, true, true, true, true, true, true]
abbrev x11tr23_3 : Array Bool := #[true, true, true, false, false, false, false, false, false, false, false, false, false, false, false, false, false, false, false, false, false, false, false]
abbrev x11tr23_4 : Array Bool := #[true, true, true, true, false, false, false, false, false, false, false, false, false, false, false, false, false, false, false, false, false, false, false]
abbrev x11tr23_5 : Array Bool := #[true, true, true, true, true, false, false, false, false, false, false, false, false, false, false, false, false, false, false, false, false, false, false]
abbrev x11tr23_6 : Array Bool := #[true, true, true, true, true, true, false, false, false, false, false, false, false, false, false, false, false, false, false, false, false, false, false]
abbrev x11tr23_7 : Array Bool := #[true, true, true, true, true, true, true, false, false, false, false, false, false, false, false, false, false, false, false, false, false, false, false]
abbrev x11tr23_8 : Array Bool := #[true, true, true, true, true, true, true, true, false, false, false, false, false, false, false, false, false, false, false, false, false, false, false]
abbrev x11tr23_9 : Array Bool := #[true, true, true, true, true, true, true, true, true, false, false, false, false, false, false, false, false, false, false, false, false, false, false]
abbrev x11tr23_m11111111111111111101000 : Array Bool := #[true, true, true, true, true, true, true, true, true, true, true, true, true, true, true, true, true, true, false, true, false, false, false]
abbrev x11tr37_0 : Array Bool := #[false, false, false, false, false, false, false, false, false, false, false, false, false, false, false, false, false, false, false, false, false, false, false, false, false, false, false, false, false, false, false, false, false, false, false, false, false]
abbrev x11tr37_1 : Array Bool := #[true, false, false, false, false, false, false, false, false, false, false, false, false, false, false, false, false, false, false, false, false, false, false, false, false, false, false, false, false, false, false, false, false, false, false, false, false]
abbrev x11tr37_10 : Array Bool := #[true, true, true, true, true, true, true, true, true, true, false, false, false, false, false, false, false, false, false, false, false, false, false, false, false, false, false, false, false, false, false, false, false, false, false, false, false]
abbrev x11tr37_11 : Array Bool := #[true, true, true, true, true, true, true, true, true, true, true, false, false, false, false, false, false, false, false, false, false, false, false, false, false, false, false, false, false, false, false, false, false, false, false, false, false]
abbrev x11tr37_12 : Array Bool := #[true, true, true, true, true, true, true, true, true, true, true, true, false, false, false, false, false, false, false, false, false, false, false, false, false, false, false, false, false, false, false, false, false, false, false, false, false]
abbrev x11tr37_13 : Array Bool := #[true, true, true, true, true, true, true, true, true, true, true, true, true, false, false, false, false, false, false, false, false, false, false, false, false, false, false, false, false, false, false, false, false, false, false, false, false]
abbrev x11tr37_14 : Array Bool := #[true, true, true, true, true, true, true, true, true, true, true, true, true, true, false, false, false, false, false, false, false, false, false, false, false, false, false, false, false, false, false, false, false, false, false, false, false]
abbrev x11tr37_15 : Array Bool := #[true, true, true, true, true, true, true, true, true, true, true, true, true, true, true, false, false, false, false, false, false, false, false, false, false, false, false, false, false, false, false, false, false, false, false, false, false]
abbrev x11tr37_16 : Array Bool := #[true, true, true, true, true, true, true, true, true, true, true, true, true, true, true, true, false, false, false, false, false, false, false, false, false, false, false, false, false, false, false, false, false, false, false, false, false]
abbrev x11tr37_17 : Array Bool := #[true, true, true, true, true, true, true, true, true, true, true, true, true, true, true, true, true, false, false, false, false, false, false, false, false, false, false, false, false, false, false, false, false, false, false, false, false]
abbrev x11tr37_18 : Array Bool := #[true, true, true, true, true, true, true, true, true, true, true, true, true, true, true, true, true, true, false, false, false, false, false, false, false, false, false, false, false, false, false, false, false, false, false, false, false]
abbrev x11tr37_19 : Array Bool := #[true, true, true, true, true, true, true, true, true, true, true, true, true, true, true, true, true, true, true, false, false, false, false, false, false, false, false, false, false, false, false, false, false, false, false, false, false]
abbrev x11tr37_2 : Array Bool := #[true, true, false, false, false, false, false, false, false, false, false, false, false, false, false, false, false, false, false, false, false, false, false, false, false, false, false, false, false, false, false, false, false, false, false, false, false]
abbrev x11tr37_20 : Array Bool := #[true, true, true, true, true, true, true, true, true, true, true, true, true, true, true, true, true, true, true, true, false, false, false, false, false, false, false, false, false, false, false, false, false, false, false, false, false]
abbrev x11tr37_21 : Array Bool := #[true, true, true, true, true, true, true, true, true, true, true, true, true, true, true, true, true, true, true, true, true, false, false, false, false, false, false, false, false, false, false, false, false, false, false, false, false]
abbrev x11tr37_22 : Array Bool := #[true, true, true, true, true, true, true, true, true, true, true, true, true, true, true, true, true, true, true, true, true, true, false, false, false, false, false, false, false, false, false, false, false, false, false, false, false]
abbrev x11tr37_23 : Array Bool := #[true, true, true, true, true, true, true, true, true, true, true, true, true, true, true, true, true, true, true, true, true, true, true, false, false, false, false, false, false, false, false, false, false, false, false, false, false]
abbrev x11tr37_24 : Array Bool := #[true, true, true, true, true, true, true, true, true, true, true, true, true, true, true, true, true, true, true, true, true, true, true, true, false, false, false, false, false, false, false, false, false, false, false, false, false]
abbrev x11tr37_25 : Array Bool := #[true, true, true, true, true, true, true, true, true, true, true, true, true, true, true, true, true, true, true, true, true, true, true, true, true, false, false, false, false, false, false, false, false, false, false, false, false]
abbrev x11tr37_26 : Array Bool := #[true, true, true, true, true, true, true, true, true, true, true, true, true, true, true, true, true, true, true, true, true, true, true, true, true, true, false, false, false, false, false, false, false, false, false, false, false]
abbrev x11tr37_27 : Array Bool := #[true, true, true, true, true, true, true, true, true, true, true, true, true, true, true, true, true, true, true, true, true, true, true, true, true, true, true, false, false, false, false, false, false, false, false, false, false]
abbrev x11tr37_28 : Array Bool := #[true, true, true, true, true, true, true, true, true, true, true, true, true, true, true, true, true, true, true, true, true, true, true, true, true, true, true, true, false, false, false, false, false, false, false, false, false]
abbrev x11tr37_29 : Array Bool := #[true, true, true, true, true, true, true, true, true, true, true, true, true, true, true, true, true, true, true, true, true, true, true, true, true, true, true, true, true, false, false, false, false, false, false, false, false]
abbrev x11tr37_3 : Array Bool := #[true, true, true, false, false, false, false, false, false, false, false, false, false, false, false, false, false, false, false, false, false, false, false, false, false, false, false, false, false, false, false, false, false, false, false, false, false]
abbrev x11tr37_30 : Array Bool := #[true, true, true, true, true, true, true, true, true, true, true, true, true, true, true, true, true, true, true, true, true, true, true, true, true, true, true, true, true, true, false, false, false, false, false, false, false]
abbrev x11tr37_31 : Array Bool := #[true, true, true, true, true, true, true, true, true, true, true, true, true, true, true, true, true, true, true, true, true, true, true, true, true, true, true, true, true, true, true, false, false, false, false, false, false]
abbrev x11tr37_32 : Array Bool := #[true, true, true, true, true, true, true, true, true, true, true, true, true, true, true, true, true, true, true, true, true, true, true, true, true, true, true, true, true, true, true, true, false, false, false, false, false]
abbrev x11tr37_33 : Array Bool := #[true, true, true, true, true, true, true, true, true, true, true, true, true, true, true, true, true, true, true, true, true, true, true, true, true, true, true, true, true, true, true, true, true, false, false, false, false]
abbrev x11tr37_34 : Array Bool := #[true, true, true, true, true, true, true, true, true, true, true, true, true, true, true, true, true, true, true, true, true, true, true, true, true, true, true, true, true, true, true, true, true, true, false, false, false]
abbrev x11tr37_35 : Array Bool := #[true, true, true, true, true, true, true, true, true, true, true, true, true, true, true, true, true, true, true, true, true, true, true, true, true, true, true, true, true, true, true, true, true, true, true, false, false]
abbrev x11tr37_36 : Array Bool := #[true, true, true, true, true, true, true, true, true, true, true, true, true, true, true, true, true, true, true, true, true, true, true, true, true, true, true, true, true, true, true, true, true, true, true, true, false]
abbrev x11tr37_37 : Array Bool := #[true, true, true, true, true, true, true, true, true, true, true, true, true, true, true, true, true, true, true, true, true, true, true, true, true, true, true, true, true, true, true, true, true, true, true, true, true]
abbrev x11tr37_4 : Array Bool := #[true, true, true, true, false, false, false, false, false, false, false, false, false, false, false, false, false, false, false, false, false, false, false, false, false, false, false, false, false, false, false, false, false, false, false, false, false]
abbrev x11tr37_6 : Array Bool := #[true, true, true, true, true, true, false, false, false, false, false, false, false, false, false, false, false, false, false, false, false, false, false, false, false, false, false, false, false, false, false, false, false, false, false, false, false]
abbrev x11tr37_7 : Array Bool := #[true, true, true, true, true, true, true, false, false, false, false, false, false, false, false, false, false, false, false, false, false, false, false, false, false, false, false, false, false, false, false, false, false, false, false, false, false]
abbrev x11tr37_8 : Array Bool := #[true, true, true, true, true, true, true, true, false, false, false, false, false, false, false, false, false, false, false, false, false, false, false, false, false, false, false, false, false, false, false, false, false, false, false, false, false]
abbrev x11tr37_9 : Array Bool := #[true, true, true, true, true, true, true, true, true, false, false, false, false, false, false, false, false, false, false, false, false, false, false, false, false, false, false, false, false, false, false, false, false, false, false, false, false]
abbrev x11tr37_m1111010000000000000000000000000000000 : Array Bool := #[true, true, true, true, false, true, false, false, false, false, false, false, false, false, false, false, false, false, false, false, false, false, false, false, false, false, false, false, false, false, false, false, false, false, false, false, false]
abbrev x11tr37_m1111111111010000000000000000000000000 : Array Bool := #[true, true, true, true, true, true, true, true, true, true, false, true, false, false, false, false, false, false, false, false, false, false, false, false, false, false, false, false, false, false, false, false, false, false, false, false, false]
abbrev x11tr37_m1111111111111111111111110100000000000 : Array Bool := #[true, true, true, true, true, true, true, true, true, true, true, true, true, true, true, true, true, true, true, true, true, true, true, true, false, true, false, false, false, false, false, false, false, false, false, false, false]
abbrev x11tr37_m1111111111111111111111111111111101000 : Array Bool := #[true, true, true, true, true, true, true, true, true, true, true, true, true, true, true, true, true, true, true, true, true, true, true, true, true, true, true, true, true, true, true, true, false, true, false, false, false]
/-! ### cantonlaw14_MountsKeep: function 3 -/
mutual
def cantonlaw14_MountsKeep.j0 : Nat → List (S27) → ByteArray → Int → Int → ByteArray → Bool → Bool → Option (Bool)
 | 0, _, _, _, _, _, _, _ => none
 | k + 1, x0, x1, x2, x3, x4, x11, x42 => if x42 = true then (some x11) else ((mounts_Begin.f x0 x1 x2).bind fun bt199 => ((mounts_Flip.f x0 x1 x3 x2).bind fun bt208 => ((cantonref14_Of.f k x0 x4).bind fun t212 => (if 0 ≤ t212 then (if t212 < (x0.length : Int) then (if bt199.2.2.2.2.2 = 0 then ((mounts_Of.f k bt199.1 x4).bind fun t215 => ((cantonref14_Right.f k bt199.1).bind fun t216 => (if t216 = true then (if t215 < 0 then (some false) else (if t215 ≥ (bt199.1.length : Int) then (some false) else (if 0 ≤ t215 then (if t215 < (bt199.1.length : Int) then (if ((rd_T27 bt199.1 t215).f1) = ((rd_T27 x0 t212).f1) then (cantonlaw14_MountsKeep.j1 k x1 x2 x4 x11 bt208.1 bt208.2 ((rd_T27 x0 t212).f0) ((rd_T27 x0 t212).f1) ((rd_T27 x0 t212).f2) ((rd_T27 x0 t212).f3)) else (some false)) else (none)) else (none)))) else (some false)))) else (cantonlaw14_MountsKeep.j1 k x1 x2 x4 x11 bt208.1 bt208.2 ((rd_T27 x0 t212).f0) ((rd_T27 x0 t212).f1) ((rd_T27 x0 t212).f2) ((rd_T27 x0 t212).f3))) else (none)) else (none)))))
def cantonlaw14_MountsKeep.j1 : Nat → ByteArray → Int → ByteArray → Bool → List (S27) → Int → ByteArray → Int → Int → Int → Option (Bool)
 | 0, _, _, _, _, _, _, _, _, _, _ => none
 | k + 1, x1, x2, x4, x11, x15, x16, x215000, x215001, x215002, x215003 => if x16 = 0 then ((mounts_Of.f k x15 x4).bind fun t218 => ((cantonref14_Right.f k x15).bind fun t219 => (if t219 = true then (if t218 < 0 then (cantonlaw14_MountsKeep.j2 k x1 x2 x11 x15 t218 true x215000 x215001 x215002 x215003) else (cantonlaw14_MountsKeep.j2 k x1 x2 x11 x15 t218 (decide (t218 ≥ (x15.length : Int))) x215000 x215001 x215002 x215003)) else (cantonlaw14_MountsKeep.j2 k x1 x2 x11 x15 t218 true x215000 x215001 x215002 x215003)))) else (some x11)
def cantonlaw14_MountsKeep.j2 : Nat → ByteArray → Int → Bool → List (S27) → Int → Bool → ByteArray → Int → Int → Int → Option (Bool)
 | 0, _, _, _, _, _, _, _, _, _, _ => none
 | k + 1, x1, x2, x11, x15, x19, x111, x215000, x215001, x215002, x215003 => if x111 = true then (some false) else (if 0 ≤ x19 then (if x19 < (x15.length : Int) then (if ((rd_T27 x15 x19).f0).toList = x215000.toList then (if x215000.toList = x1.toList then (if ((rd_T27 x15 x19).f1) = x2 then (some x11) else (some false)) else (if (!((((rd_T27 x15 x19).f0).toList) == x215000.toList) || (!(((rd_T27 x15 x19).f1) == x215001) || (!(((rd_T27 x15 x19).f2) == x215002) || (!(((rd_T27 x15 x19).f3) == x215003))))) = true then (some false) else (some x11))) else (some false)) else (none)) else (none))
end
def cantonlaw14_MountsKeep.f (k : Nat) (l0 : List (S27)) (a1 : ByteArray) (a2 : Int) (a3 : Int) (a4 : ByteArray) : Option (Bool) := (cantonlaw14_head.f k).bind fun t195 => ((cantonlaw14_great.f k l0).bind fun t196 => (if t196 = true then (cantonlaw14_MountsKeep.j0 k l0 a1 a2 a3 a4 t195 true) else (if (a1.size : Int) > 1000 then (cantonlaw14_MountsKeep.j0 k l0 a1 a2 a3 a4 t195 true) else (if (a4.size : Int) > 1000 then (cantonlaw14_MountsKeep.j0 k l0 a1 a2 a3 a4 t195 true) else ((cantonref14_Right.f k l0).bind fun t197 => (if t197 = true then ((cantonref01_Right.f k a4).bind fun t198 => (cantonlaw14_MountsKeep.j0 k l0 a1 a2 a3 a4 t195 (!t198))) else (cantonlaw14_MountsKeep.j0 k l0 a1 a2 a3 a4 t195 true)))))))
theorem cantonlaw14_MountsKeep.mono_l : ∀ k, (∀ y0 y1 y2 y3 y4 y5 y6, LeO (cantonlaw14_MountsKeep.j0 k y0 y1 y2 y3 y4 y5 y6) (cantonlaw14_MountsKeep.j0 (k + 1) y0 y1 y2 y3 y4 y5 y6)) ∧ (∀ y0 y1 y2 y3 y4 y5 y6 y7 y8 y9, LeO (cantonlaw14_MountsKeep.j1 k y0 y1 y2 y3 y4 y5 y6 y7 y8 y9) (cantonlaw14_MountsKeep.j1 (k + 1) y0 y1 y2 y3 y4 y5 y6 y7 y8 y9)) ∧ (∀ y0 y1 y2 y3 y4 y5 y6 y7 y8 y9, LeO (cantonlaw14_MountsKeep.j2 k y0 y1 y2 y3 y4 y5 y6 y7 y8 y9) (cantonlaw14_MountsKeep.j2 (k + 1) y0 y1 y2 y3 y4 y5 y6 y7 y8 y9))
 | 0 => ⟨fun _ _ _ _ _ _ _ r h => by simp [cantonlaw14_MountsKeep.j0] at h, fun _ _ _ _ _ _ _ _ _ _ r h => by simp [cantonlaw14_MountsKeep.j1] at h, fun _ _ _ _ _ _ _ _ _ _ r h => by simp [cantonlaw14_MountsKeep.j2] at h⟩
 | k + 1 => by
  obtain ⟨ih0, ih1, ih2⟩ := cantonlaw14_MountsKeep.mono_l k
  refine ⟨?_, ?_, ?_⟩
  ·intro y0 y1 y2 y3 y4 y5 y6
   unfold cantonlaw14_MountsKeep.j0
   repeat' first
   | (with_reducible exact ih0 _ _ _ _ _ _ _)
   | (with_reducible exact ih1 _ _ _ _ _ _ _ _ _ _)
   | (with_reducible exact ih2 _ _ _ _ _ _ _ _ _ _)
   | (with_reducible exact cantonlaw14_great.mono _ _)
   | (with_reducible exact cantonlaw14_head.mono _)
   | (with_reducible exact cantonref01_Right.mono _ _)
   | (with_reducible exact cantonref14_Of.mono _ _ _)
   | (with_reducible exact cantonref14_Right.mono _ _)
   | (with_reducible exact mounts_Of.mono _ _ _)
   | (with_reducible exact LeO.refl _)
   | (with_reducible exact LeO.none _)
   | (with_reducible refine LeO.ite ?_ ?_)
   | (with_reducible refine LeO.bind ?_ (fun _ => ?_))
   | exact ih0 _ _ _ _ _ _ _
   | exact ih1 _ _ _ _ _ _ _ _ _ _
   | exact ih2 _ _ _ _ _ _ _ _ _ _
   | exact cantonlaw14_great.mono _ _
   | exact cantonlaw14_head.mono _
   | exact cantonref01_Right.mono _ _
   | exact cantonref14_Of.mono _ _ _
   | exact cantonref14_Right.mono _ _
   | exact mounts_Of.mono _ _ _
   | exact LeO.none _
   | refine LeO.ite ?_ ?_
   | refine LeO.bind ?_ (fun _ => ?_)
  ·intro y0 y1 y2 y3 y4 y5 y6 y7 y8 y9
   unfold cantonlaw14_MountsKeep.j1
   repeat' first
   | (with_reducible exact ih0 _ _ _ _ _ _ _)
   | (with_reducible exact ih1 _ _ _ _ _ _ _ _ _ _)
   | (with_reducible exact ih2 _ _ _ _ _ _ _ _ _ _)
   | (with_reducible exact cantonlaw14_great.mono _ _)
   | (with_reducible exact cantonlaw14_head.mono _)
   | (with_reducible exact cantonref01_Right.mono _ _)
   | (with_reducible exact cantonref14_Of.mono _ _ _)
   | (with_reducible exact cantonref14_Right.mono _ _)
   | (with_reducible exact mounts_Of.mono _ _ _)
   | (with_reducible exact LeO.refl _)
   | (with_reducible exact LeO.none _)
   | (with_reducible refine LeO.ite ?_ ?_)
   | (with_reducible refine LeO.bind ?_ (fun _ => ?_))
   | exact ih0 _ _ _ _ _ _ _
   | exact ih1 _ _ _ _ _ _ _ _ _ _
   | exact ih2 _ _ _ _ _ _ _ _ _ _
   | exact cantonlaw14_great.mono _ _
   | exact cantonlaw14_head.mono _
   | exact cantonref01_Right.mono _ _
   | exact cantonref14_Of.mono _ _ _
   | exact cantonref14_Right.mono _ _
   | exact mounts_Of.mono _ _ _
   | exact LeO.none _
   | refine LeO.ite ?_ ?_
   | refine LeO.bind ?_ (fun _ => ?_)
  ·intro y0 y1 y2 y3 y4 y5 y6 y7 y8 y9
   unfold cantonlaw14_MountsKeep.j2
   repeat' first
   | (with_reducible exact ih0 _ _ _ _ _ _ _)
   | (with_reducible exact ih1 _ _ _ _ _ _ _ _ _ _)
   | (with_reducible exact ih2 _ _ _ _ _ _ _ _ _ _)
   | (with_reducible exact cantonlaw14_great.mono _ _)
   | (with_reducible exact cantonlaw14_head.mono _)
   | (with_reducible exact cantonref01_Right.mono _ _)
   | (with_reducible exact cantonref14_Of.mono _ _ _)
   | (with_reducible exact cantonref14_Right.mono _ _)
   | (with_reducible exact mounts_Of.mono _ _ _)
   | (with_reducible exact LeO.refl _)
   | (with_reducible exact LeO.none _)
   | (with_reducible refine LeO.ite ?_ ?_)
   | (with_reducible refine LeO.bind ?_ (fun _ => ?_))
   | exact ih0 _ _ _ _ _ _ _
   | exact ih1 _ _ _ _ _ _ _ _ _ _
   | exact ih2 _ _ _ _ _ _ _ _ _ _
   | exact cantonlaw14_great.mono _ _
   | exact cantonlaw14_head.mono _
   | exact cantonref01_Right.mono _ _
   | exact cantonref14_Of.mono _ _ _
   | exact cantonref14_Right.mono _ _
   | exact mounts_Of.mono _ _ _
   | exact LeO.none _
   | refine LeO.ite ?_ ?_
   | refine LeO.bind ?_ (fun _ => ?_)
theorem cantonlaw14_MountsKeep.mono : ∀ a0 a1 a2 a3 a4 k, LeO (cantonlaw14_MountsKeep.f k a0 a1 a2 a3 a4) (cantonlaw14_MountsKeep.f (k + 1) a0 a1 a2 a3 a4) := by
 intro a0 a1 a2 a3 a4 k
 obtain ⟨ih0, ih1, ih2⟩ := cantonlaw14_MountsKeep.mono_l k
 unfold cantonlaw14_MountsKeep.f
 repeat' first
   | (with_reducible exact ih0 _ _ _ _ _ _ _)
   | (with_reducible exact ih1 _ _ _ _ _ _ _ _ _ _)
   | (with_reducible exact ih2 _ _ _ _ _ _ _ _ _ _)
   | (with_reducible exact cantonlaw14_great.mono _ _)
   | (with_reducible exact cantonlaw14_head.mono _)
   | (with_reducible exact cantonref01_Right.mono _ _)
   | (with_reducible exact cantonref14_Of.mono _ _ _)
   | (with_reducible exact cantonref14_Right.mono _ _)
   | (with_reducible exact mounts_Of.mono _ _ _)
   | (with_reducible exact LeO.refl _)
   | (with_reducible exact LeO.none _)
   | (with_reducible refine LeO.ite ?_ ?_)
   | (with_reducible refine LeO.bind ?_ (fun _ => ?_))
   | exact ih0 _ _ _ _ _ _ _
   | exact ih1 _ _ _ _ _ _ _ _ _ _
   | exact ih2 _ _ _ _ _ _ _ _ _ _
   | exact cantonlaw14_great.mono _ _
   | exact cantonlaw14_head.mono _
   | exact cantonref01_Right.mono _ _
   | exact cantonref14_Of.mono _ _ _
   | exact cantonref14_Right.mono _ _
   | exact mounts_Of.mono _ _ _
   | exact LeO.none _
   | refine LeO.ite ?_ ?_
   | refine LeO.bind ?_ (fun _ => ?_)
def cantonlaw14_MountsKeep.T9 : Bool × List (List Nat × List Nat) := (true, [([], []), ([0], [0]), ([1], [1]), ([2, 1], [2]), ([3], [3]), ([4, 3], [3, 4]), ([3, 5], [3, 5]), ([6, 3], [6]), ([7], [7]), ([7], [7]), ([9, 7], [7, 9]), ([8, 10, 7], [7, 8, 10]), ([7, 11], [7, 11]), ([12, 7], [12]), ([13], [13]), ([13], [13]), ([14, 15, 13], [13, 14, 15]), ([16, 13], [13, 16]), ([17, 13], [13, 17]), ([13], [13]), ([19, 13], [13, 19]), ([18, 20, 13], [13, 18, 20]), ([13, 21], [13, 21])])
def cantonlaw14_MountsKeep.B9 : List Nat := [0, 1, 3, 7, 15, 31, 63, 127, 255, 255, 767, 2047, 4095, 8191, 16383, 16383, 65535, 131071, 262143, 16383, 540671, 2097151, 4194303]
theorem cantonlaw14_MountsKeep.tab9 : rtab .any (opsOf Try.f3 9) = cantonlaw14_MountsKeep.T9 := by kernel_rfl
theorem cantonlaw14_MountsKeep.bits9 : waitsOk cantonlaw14_MountsKeep.T9.2 cantonlaw14_MountsKeep.B9 = true := by kernel_rfl
def cantonlaw14_MountsKeep.T15 : Bool × List (List Nat × List Nat) := (true, [([], []), ([], []), ([0, 1], [0, 1]), ([2], [2]), ([3], [3]), ([], []), ([5], [5]), ([4, 6], [4, 6]), ([7], [7]), ([8], [8]), ([9, 8], [8, 9]), ([8], [8]), ([10, 11, 8], [8, 10, 11]), ([12, 8, 8], [8, 12]), ([13], [13]), ([13], [13]), ([14, 15, 13], [13, 14, 15]), ([16, 13], [13, 16]), ([13], [13]), ([17, 18, 13], [13, 17, 18]), ([13, 19, 8], [8, 13, 19]), ([8, 20], [8, 20]), ([21, 13], [21]), ([22], [22]), ([23, 22], [22, 23]), ([22], [22]), ([24, 25, 22], [22, 24, 25]), ([26, 22, 22], [22, 26]), ([27], [27]), ([27], [27]), ([28, 29, 27], [27, 28, 29]), ([30, 27], [27, 30]), ([31, 27], [27, 31]), ([27], [27]), ([32, 33, 27], [27, 32, 33]), ([27, 34, 22], [22, 27, 34]), ([22, 35], [22, 35])])
def cantonlaw14_MountsKeep.B15 : List Nat := [0, 0, 3, 7, 15, 0, 32, 127, 255, 511, 1023, 511, 4095, 8191, 16383, 16383, 65535, 131071, 16383, 524287, 1048575, 2097151, 4194303, 8388607, 16777215, 8388607, 67108863, 134217727, 268435455, 268435455, 1073741823, 2147483647, 4294967295, 268435455, 17179869183, 34359738367, 68719476735]
theorem cantonlaw14_MountsKeep.tab15 : rtab .any (opsOf Try.f3 15) = cantonlaw14_MountsKeep.T15 := by kernel_rfl
theorem cantonlaw14_MountsKeep.bits15 : waitsOk cantonlaw14_MountsKeep.T15.2 cantonlaw14_MountsKeep.B15 = true := by kernel_rfl
set_option maxHeartbeats 8000000 in
set_option maxRecDepth 100000 in
theorem cantonlaw14_MountsKeep.calls (k : Nat) (A0 : Option Addr) (c0 : Nat) (l0 : List (S27)) (a1 : ByteArray) (a2 : Int) (a3 : Int) (a4 : ByteArray) (r : Bool) (w : World) (hr0 : Kd.C k27 w A0 l0.length l0) (hc0 : l0.length ≤ c0) (h : cantonlaw14_MountsKeep.f k l0 a1 a2 a3 a4 = some r) :
  Calls Try.prog 3 #[.slice A0 l0.length c0, .string a1, .int .i64 a2, .int .i64 a3, .string a4] w fun e w' => e = .returned (.bool r) ∧ Below w.heap.size w w' := by
 have hu27 := Try.underlying27
 have HR0 := Aside0.mk hr0
 have HC0 := Aside0.mk hc0
 clear hr0 hc0
 have HB := Aside0.mk (Below.refl w.heap.size w)
 have H : ((cantonlaw14_head.f k).bind fun t195 => ((cantonlaw14_great.f k l0).bind fun t196 => (if t196 = true then (cantonlaw14_MountsKeep.j0 k l0 a1 a2 a3 a4 t195 true) else (if (a1.size : Int) > 1000 then (cantonlaw14_MountsKeep.j0 k l0 a1 a2 a3 a4 t195 true) else (if (a4.size : Int) > 1000 then (cantonlaw14_MountsKeep.j0 k l0 a1 a2 a3 a4 t195 true) else ((cantonref14_Right.f k l0).bind fun t197 => (if t197 = true then ((cantonref01_Right.f k a4).bind fun t198 => (cantonlaw14_MountsKeep.j0 k l0 a1 a2 a3 a4 t195 (!t198))) else (cantonlaw14_MountsKeep.j0 k l0 a1 a2 a3 a4 t195 true)))))))) = some r := h
 clear h
 replace H := Option.bind_eq_some_iff.mp H
 obtain ⟨t195, A60, H⟩ := H
 replace H : ((cantonlaw14_great.f k l0).bind fun t196 => (if t196 = true then (cantonlaw14_MountsKeep.j0 k l0 a1 a2 a3 a4 t195 true) else (if (a1.size : Int) > 1000 then (cantonlaw14_MountsKeep.j0 k l0 a1 a2 a3 a4 t195 true) else (if (a4.size : Int) > 1000 then (cantonlaw14_MountsKeep.j0 k l0 a1 a2 a3 a4 t195 true) else ((cantonref14_Right.f k l0).bind fun t197 => (if t197 = true then ((cantonref01_Right.f k a4).bind fun t198 => (cantonlaw14_MountsKeep.j0 k l0 a1 a2 a3 a4 t195 (!t198))) else (cantonlaw14_MountsKeep.j0 k l0 a1 a2 a3 a4 t195 true))))))) = some r := H
 have A6 := Aside0.mk A60
 clear A60
 have HC7 := Aside0.mk H
 clear H
 go_enter Try.func3, Try.ntmps3
 go_upto_region 2 with (first | ((with_reducible refine gate_callee (f := 8) rfl ?_); refine goesL_ (some 20) rfl rfl Try.func8 (by kernel_rfl) rfl #[] rfl (by (try simp only [List.map_toArray, List.map_cons, List.map_nil]); first | done | rfl | (simp only [List.length_drop, List.length_take]; rfl)) ?_; (with_reducible refine (cantonlaw14_head.calls k  t195 _ A6.out).mono ?_); rintro e w8 ⟨rfl, hb⟩; refine ⟨_, rfl, ?_⟩; have n0_ := Aside0.mk (below_step (by repeat (first | (with_reducible first | exact HB.out | apply below_alloc | apply pw_below_drewN | apply below_drew1) | exact HB.out)) hb); clear HB; have HB := n0_; clear n0_; (try clear hb); (try clear hb2); (try clear hk); (try clear hi)))
 (try simp only [Act.put, List.setIfInBounds_toArray, List.set_cons_zero, List.set_cons_succ])
 go_cut [42] (fun v42 wc => ∃ (kq : Nat) (x42_6 : Bool), v42 = .bool x42_6 ∧ Aside0 (cantonlaw14_MountsKeep.j0 kq l0 a1 a2 a3 a4 t195 x42_6 = some r) ∧ Aside0 (kq ≤ k) ∧ Aside0 (Below w.heap.size w wc))
 case first =>
  have H := HC7.out
  clear HC7
  replace H := Option.bind_eq_some_iff.mp H
  obtain ⟨t196, A90, H⟩ := H
  replace H : (if t196 = true then (cantonlaw14_MountsKeep.j0 k l0 a1 a2 a3 a4 t195 true) else (if (a1.size : Int) > 1000 then (cantonlaw14_MountsKeep.j0 k l0 a1 a2 a3 a4 t195 true) else (if (a4.size : Int) > 1000 then (cantonlaw14_MountsKeep.j0 k l0 a1 a2 a3 a4 t195 true) else ((cantonref14_Right.f k l0).bind fun t197 => (if t197 = true then ((cantonref01_Right.f k a4).bind fun t198 => (cantonlaw14_MountsKeep.j0 k l0 a1 a2 a3 a4 t195 (!t198))) else (cantonlaw14_MountsKeep.j0 k l0 a1 a2 a3 a4 t195 true)))))) = some r := H
  have A9 := Aside0.mk A90
  clear A90
  by_cases c10 : t196 = true
  ·subst c10
   have H1 : (cantonlaw14_MountsKeep.j0 k l0 a1 a2 a3 a4 t195 true) = some r := by rw [if_pos rfl] at H; exact H
   clear H
   have H := H1
   clear H1
   have H' := Aside0.mk H
   clear H
   go_wp2_with (first | ((with_reducible refine gate_callee (f := 9) rfl ?_); refine goesL_ (some 22) rfl rfl Try.func9 (by kernel_rfl) rfl #[.slice A0 l0.length c0] rfl (by (try simp only [List.map_toArray, List.map_cons, List.map_nil]); first | done | rfl | (simp only [List.length_drop, List.length_take]; rfl)) ?_; (with_reducible refine (cantonlaw14_great.calls k _ _ l0 true _ ?side1 ?side2 A9.out).mono ?_); (case side1 => repeat (first | exact (Kd.C_below HR0.out HB.out) | (with_reducible refine Kd.C_alloc ?_ _) | (with_reducible refine Kd.C_drewN ?_ _) | (with_reducible refine Kd.C_drew ?_))); (case side2 => exact HC0.out); rintro e w11 ⟨rfl, hb⟩; refine ⟨_, rfl, ?_⟩; have n0_ := Aside0.mk (below_step (by repeat (first | (with_reducible first | exact HB.out | apply below_alloc | apply pw_below_drewN | apply below_drew1) | exact HB.out)) hb); clear HB; have HB := n0_; clear n0_; (try clear hb); (try clear hb2); (try clear hk); (try clear hi)))
   go_meet
   case rel => exact ⟨_, (true), (by first | rfl | (simp; done) | (simp [*]; done)), H', ⟨by first | omega | exact Nat.le_refl _⟩, ⟨by repeat (first | (with_reducible first | exact HB.out | apply below_alloc | apply pw_below_drewN | apply below_drew1) | exact HB.out)⟩⟩
  ·replace c10 := Bool.eq_false_iff.mpr c10
   subst c10
   have H1 : (if (a1.size : Int) > 1000 then (cantonlaw14_MountsKeep.j0 k l0 a1 a2 a3 a4 t195 true) else (if (a4.size : Int) > 1000 then (cantonlaw14_MountsKeep.j0 k l0 a1 a2 a3 a4 t195 true) else ((cantonref14_Right.f k l0).bind fun t197 => (if t197 = true then ((cantonref01_Right.f k a4).bind fun t198 => (cantonlaw14_MountsKeep.j0 k l0 a1 a2 a3 a4 t195 (!t198))) else (cantonlaw14_MountsKeep.j0 k l0 a1 a2 a3 a4 t195 true))))) = some r := by rw [if_neg (show ¬ (false = true) by decide)] at H; exact H
   clear H
   have H := H1
   clear H1
   by_cases c12 : (a1.size : Int) > 1000
   ·rw [if_pos c12] at H
    have c12b0 : decide (1000 < (a1.size : Int)) = true := decide_eq_true c12
    have c12b1 : decide (1000 < a1.size) = true := decide_eq_true (by omega)
    clear c12
    (first | rw [c12b0] | (simp only [i64_w, i32_w]; rw [c12b0]) | skip)
    have H' := Aside0.mk H
    clear H
    go_wp2_with (first | ((with_reducible refine gate_callee (f := 9) rfl ?_); refine goesL_ (some 22) rfl rfl Try.func9 (by kernel_rfl) rfl #[.slice A0 l0.length c0] rfl (by (try simp only [List.map_toArray, List.map_cons, List.map_nil]); first | done | rfl | (simp only [List.length_drop, List.length_take]; rfl)) ?_; (with_reducible refine (cantonlaw14_great.calls k _ _ l0 false _ ?side1 ?side2 A9.out).mono ?_); (case side1 => repeat (first | exact (Kd.C_below HR0.out HB.out) | (with_reducible refine Kd.C_alloc ?_ _) | (with_reducible refine Kd.C_drewN ?_ _) | (with_reducible refine Kd.C_drew ?_))); (case side2 => exact HC0.out); rintro e w13 ⟨rfl, hb⟩; refine ⟨_, rfl, ?_⟩; have n0_ := Aside0.mk (below_step (by repeat (first | (with_reducible first | exact HB.out | apply below_alloc | apply pw_below_drewN | apply below_drew1) | exact HB.out)) hb); clear HB; have HB := n0_; clear n0_; (try clear hb); (try clear hb2); (try clear hk); (try clear hi)))
    go_meet
    case rel => exact ⟨_, (true), (by first | rfl | (simp; done) | (simp [*]; done)), H', ⟨by first | omega | exact Nat.le_refl _⟩, ⟨by repeat (first | (with_reducible first | exact HB.out | apply below_alloc | apply pw_below_drewN | apply below_drew1) | exact HB.out)⟩⟩
   ·rw [if_neg c12] at H
    have c12b0 : decide (1000 < (a1.size : Int)) = false := decide_eq_false c12
    have c12b1 : decide (1000 < a1.size) = false := decide_eq_false (by omega)
    clear c12
    (first | rw [c12b0] | (simp only [i64_w, i32_w]; rw [c12b0]) | skip)
    by_cases c14 : (a4.size : Int) > 1000
    ·rw [if_pos c14] at H
     have c14b0 : decide (1000 < (a4.size : Int)) = true := decide_eq_true c14
     have c14b1 : decide (1000 < a4.size) = true := decide_eq_true (by omega)
     clear c14
     have H' := Aside0.mk H
     clear H
     go_wp2_with (first | ((with_reducible refine gate_callee (f := 9) rfl ?_); refine goesL_ (some 22) rfl rfl Try.func9 (by kernel_rfl) rfl #[.slice A0 l0.length c0] rfl (by (try simp only [List.map_toArray, List.map_cons, List.map_nil]); first | done | rfl | (simp only [List.length_drop, List.length_take]; rfl)) ?_; (with_reducible refine (cantonlaw14_great.calls k _ _ l0 false _ ?side1 ?side2 A9.out).mono ?_); (case side1 => repeat (first | exact (Kd.C_below HR0.out HB.out) | (with_reducible refine Kd.C_alloc ?_ _) | (with_reducible refine Kd.C_drewN ?_ _) | (with_reducible refine Kd.C_drew ?_))); (case side2 => exact HC0.out); rintro e w15 ⟨rfl, hb⟩; refine ⟨_, rfl, ?_⟩; have n0_ := Aside0.mk (below_step (by repeat (first | (with_reducible first | exact HB.out | apply below_alloc | apply pw_below_drewN | apply below_drew1) | exact HB.out)) hb); clear HB; have HB := n0_; clear n0_; (try clear hb); (try clear hb2); (try clear hk); (try clear hi)))
     go_meet
     case rel => exact ⟨_, (true), (by first | rfl | (simp; done) | (simp [*]; done)), H', ⟨by first | omega | exact Nat.le_refl _⟩, ⟨by repeat (first | (with_reducible first | exact HB.out | apply below_alloc | apply pw_below_drewN | apply below_drew1) | exact HB.out)⟩⟩
    ·rw [if_neg c14] at H
     have c14b0 : decide (1000 < (a4.size : Int)) = false := decide_eq_false c14
     have c14b1 : decide (1000 < a4.size) = false := decide_eq_false (by omega)
     clear c14
     replace H := Option.bind_eq_some_iff.mp H
     obtain ⟨t197, A160, H⟩ := H
     replace H : (if t197 = true then ((cantonref01_Right.f k a4).bind fun t198 => (cantonlaw14_MountsKeep.j0 k l0 a1 a2 a3 a4 t195 (!t198))) else (cantonlaw14_MountsKeep.j0 k l0 a1 a2 a3 a4 t195 true)) = some r := H
     have A16 := Aside0.mk A160
     clear A160
     by_cases c17 : t197 = true
     ·subst c17
      have H1 : ((cantonref01_Right.f k a4).bind fun t198 => (cantonlaw14_MountsKeep.j0 k l0 a1 a2 a3 a4 t195 (!t198))) = some r := by rw [if_pos rfl] at H; exact H
      clear H
      have H := H1
      clear H1
      replace H := Option.bind_eq_some_iff.mp H
      obtain ⟨t198, A180, H⟩ := H
      replace H : (cantonlaw14_MountsKeep.j0 k l0 a1 a2 a3 a4 t195 (!t198)) = some r := H
      have A18 := Aside0.mk A180
      clear A180
      have H' := Aside0.mk H
      clear H
      go_wp2_with (first | ((with_reducible refine gate_callee (f := 9) rfl ?_); refine goesL_ (some 22) rfl rfl Try.func9 (by kernel_rfl) rfl #[.slice A0 l0.length c0] rfl (by (try simp only [List.map_toArray, List.map_cons, List.map_nil]); first | done | rfl | (simp only [List.length_drop, List.length_take]; rfl)) ?_; (with_reducible refine (cantonlaw14_great.calls k _ _ l0 false _ ?side1 ?side2 A9.out).mono ?_); (case side1 => repeat (first | exact (Kd.C_below HR0.out HB.out) | (with_reducible refine Kd.C_alloc ?_ _) | (with_reducible refine Kd.C_drewN ?_ _) | (with_reducible refine Kd.C_drew ?_))); (case side2 => exact HC0.out); rintro e w19 ⟨rfl, hb⟩; refine ⟨_, rfl, ?_⟩; have n0_ := Aside0.mk (below_step (by repeat (first | (with_reducible first | exact HB.out | apply below_alloc | apply pw_below_drewN | apply below_drew1) | exact HB.out)) hb); clear HB; have HB := n0_; clear n0_; (try clear hb); (try clear hb2); (try clear hk); (try clear hi)) | (go_at_call 10; (with_reducible refine (cantonref14_Right.calls k _ _ l0 true _ ?side1 ?side2 A16.out).mono ?_); (case side1 => repeat (first | exact (Kd.C_below HR0.out HB.out) | (with_reducible refine Kd.C_alloc ?_ _) | (with_reducible refine Kd.C_drewN ?_ _) | (with_reducible refine Kd.C_drew ?_))); (case side2 => exact HC0.out); rintro e w20 ⟨rfl, hb⟩; have n0_ := Aside0.mk (below_step (by repeat (first | (with_reducible first | exact HB.out | apply below_alloc | apply pw_below_drewN | apply below_drew1) | exact HB.out)) hb); clear HB; have HB := n0_; clear n0_; (try clear hb); (try clear hb2); (try clear hk); (try clear hi)) | (go_at_call 11; (with_reducible refine (cantonref01_Right.calls k a4 t198 _ A18.out).mono ?_); rintro e w21 ⟨rfl, hb⟩; have n0_ := Aside0.mk (below_step (by repeat (first | (with_reducible first | exact HB.out | apply below_alloc | apply pw_below_drewN | apply below_drew1) | exact HB.out)) hb); clear HB; have HB := n0_; clear n0_; (try clear hb); (try clear hb2); (try clear hk); (try clear hi)))
      go_meet
      case rel => exact ⟨_, (!t198), (by first | rfl | (simp; done) | (simp [*]; done)), H', ⟨by first | omega | exact Nat.le_refl _⟩, ⟨by repeat (first | (with_reducible first | exact HB.out | apply below_alloc | apply pw_below_drewN | apply below_drew1) | exact HB.out)⟩⟩
     ·replace c17 := Bool.eq_false_iff.mpr c17
      subst c17
      have H1 : (cantonlaw14_MountsKeep.j0 k l0 a1 a2 a3 a4 t195 true) = some r := by rw [if_neg (show ¬ (false = true) by decide)] at H; exact H
      clear H
      have H := H1
      clear H1
      have H' := Aside0.mk H
      clear H
      go_wp2_with (first | ((with_reducible refine gate_callee (f := 9) rfl ?_); refine goesL_ (some 22) rfl rfl Try.func9 (by kernel_rfl) rfl #[.slice A0 l0.length c0] rfl (by (try simp only [List.map_toArray, List.map_cons, List.map_nil]); first | done | rfl | (simp only [List.length_drop, List.length_take]; rfl)) ?_; (with_reducible refine (cantonlaw14_great.calls k _ _ l0 false _ ?side1 ?side2 A9.out).mono ?_); (case side1 => repeat (first | exact (Kd.C_below HR0.out HB.out) | (with_reducible refine Kd.C_alloc ?_ _) | (with_reducible refine Kd.C_drewN ?_ _) | (with_reducible refine Kd.C_drew ?_))); (case side2 => exact HC0.out); rintro e w22 ⟨rfl, hb⟩; refine ⟨_, rfl, ?_⟩; have n0_ := Aside0.mk (below_step (by repeat (first | (with_reducible first | exact HB.out | apply below_alloc | apply pw_below_drewN | apply below_drew1) | exact HB.out)) hb); clear HB; have HB := n0_; clear n0_; (try clear hb); (try clear hb2); (try clear hk); (try clear hi)) | (go_at_call 10; (with_reducible refine (cantonref14_Right.calls k _ _ l0 false _ ?side1 ?side2 A16.out).mono ?_); (case side1 => repeat (first | exact (Kd.C_below HR0.out HB.out) | (with_reducible refine Kd.C_alloc ?_ _) | (with_reducible refine Kd.C_drewN ?_ _) | (with_reducible refine Kd.C_drew ?_))); (case side2 => exact HC0.out); rintro e w23 ⟨rfl, hb⟩; have n0_ := Aside0.mk (below_step (by repeat (first | (with_reducible first | exact HB.out | apply below_alloc | apply pw_below_drewN | apply below_drew1) | exact HB.out)) hb); clear HB; have HB := n0_; clear n0_; (try clear hb); (try clear hb2); (try clear hk); (try clear hi)))
      go_meet
      case rel => exact ⟨_, (true), (by first | rfl | (simp; done) | (simp [*]; done)), H', ⟨by first | omega | exact Nat.le_refl _⟩, ⟨by repeat (first | (with_reducible first | exact HB.out | apply below_alloc | apply pw_below_drewN | apply below_drew1) | exact HB.out)⟩⟩
 case rest =>
  clear HC7
  try clear c1
  try clear p2
  try clear c3
  try clear c8
  try clear c9
  try clear c10
  try clear c12
  try clear c12b0
  try clear c12b1
  try clear c14
  try clear c14b0
  try clear c14b1
  try clear c17
  obtain ⟨kq, x42_6, rfl, HA, HJ6, HB⟩ := hcut
  cases kq with
  | zero => exact absurd HA.out (by simp [cantonlaw14_MountsKeep.j0])
  | succ kj6 =>
   have H := HA.out
   clear HA
   simp only [cantonlaw14_MountsKeep.j0] at H
   by_cases c24 : x42_6 = true
   ·subst c24
    have H1 : (some t195) = some r := by rw [if_pos rfl] at H; exact H
    clear H
    have H := H1
    clear H1
    obtain rfl := Option.some.inj H
    go_wp2
    go_ret
    exact ⟨by first | rfl | (simp [errW_none, errW_some] <;> rfl) | (simp [*, errW_none, errW_some] <;> rfl), by repeat (first | (with_reducible first | exact HB.out | apply below_alloc | apply pw_below_drewN | apply below_drew1) | exact HB.out)⟩
   ·replace c24 := Bool.eq_false_iff.mpr c24
    subst c24
    have H1 : ((mounts_Begin.f l0 a1 a2).bind fun bt199 => ((mounts_Flip.f l0 a1 a3 a2).bind fun bt208 => ((cantonref14_Of.f kj6 l0 a4).bind fun t212 => (if 0 ≤ t212 then (if t212 < (l0.length : Int) then (if bt199.2.2.2.2.2 = 0 then ((mounts_Of.f kj6 bt199.1 a4).bind fun t215 => ((cantonref14_Right.f kj6 bt199.1).bind fun t216 => (if t216 = true then (if t215 < 0 then (some false) else (if t215 ≥ (bt199.1.length : Int) then (some false) else (if 0 ≤ t215 then (if t215 < (bt199.1.length : Int) then (if ((rd_T27 bt199.1 t215).f1) = ((rd_T27 l0 t212).f1) then (cantonlaw14_MountsKeep.j1 kj6 a1 a2 a4 t195 bt208.1 bt208.2 ((rd_T27 l0 t212).f0) ((rd_T27 l0 t212).f1) ((rd_T27 l0 t212).f2) ((rd_T27 l0 t212).f3)) else (some false)) else (none)) else (none)))) else (some false)))) else (cantonlaw14_MountsKeep.j1 kj6 a1 a2 a4 t195 bt208.1 bt208.2 ((rd_T27 l0 t212).f0) ((rd_T27 l0 t212).f1) ((rd_T27 l0 t212).f2) ((rd_T27 l0 t212).f3))) else (none)) else (none))))) = some r := by rw [if_neg (show ¬ (false = true) by decide)] at H; exact H
    clear H
    have H := H1
    clear H1
    replace H := Option.bind_eq_some_iff.mp H
    obtain ⟨⟨t199, t202, t203, t204, t205, t206⟩, A250, H⟩ := H
    replace H : ((mounts_Flip.f l0 a1 a3 a2).bind fun bt208 => ((cantonref14_Of.f kj6 l0 a4).bind fun t212 => (if 0 ≤ t212 then (if t212 < (l0.length : Int) then (if t206 = 0 then ((mounts_Of.f kj6 t199 a4).bind fun t215 => ((cantonref14_Right.f kj6 t199).bind fun t216 => (if t216 = true then (if t215 < 0 then (some false) else (if t215 ≥ (t199.length : Int) then (some false) else (if 0 ≤ t215 then (if t215 < (t199.length : Int) then (if ((rd_T27 t199 t215).f1) = ((rd_T27 l0 t212).f1) then (cantonlaw14_MountsKeep.j1 kj6 a1 a2 a4 t195 bt208.1 bt208.2 ((rd_T27 l0 t212).f0) ((rd_T27 l0 t212).f1) ((rd_T27 l0 t212).f2) ((rd_T27 l0 t212).f3)) else (some false)) else (none)) else (none)))) else (some false)))) else (cantonlaw14_MountsKeep.j1 kj6 a1 a2 a4 t195 bt208.1 bt208.2 ((rd_T27 l0 t212).f0) ((rd_T27 l0 t212).f1) ((rd_T27 l0 t212).f2) ((rd_T27 l0 t212).f3))) else (none)) else (none)))) = some r := H
    have A25 := Aside0.mk A250
    clear A250
    replace H := Option.bind_eq_some_iff.mp H
    obtain ⟨⟨t208, t211⟩, A260, H⟩ := H
    replace H : ((cantonref14_Of.f kj6 l0 a4).bind fun t212 => (if 0 ≤ t212 then (if t212 < (l0.length : Int) then (if t206 = 0 then ((mounts_Of.f kj6 t199 a4).bind fun t215 => ((cantonref14_Right.f kj6 t199).bind fun t216 => (if t216 = true then (if t215 < 0 then (some false) else (if t215 ≥ (t199.length : Int) then (some false) else (if 0 ≤ t215 then (if t215 < (t199.length : Int) then (if ((rd_T27 t199 t215).f1) = ((rd_T27 l0 t212).f1) then (cantonlaw14_MountsKeep.j1 kj6 a1 a2 a4 t195 t208 t211 ((rd_T27 l0 t212).f0) ((rd_T27 l0 t212).f1) ((rd_T27 l0 t212).f2) ((rd_T27 l0 t212).f3)) else (some false)) else (none)) else (none)))) else (some false)))) else (cantonlaw14_MountsKeep.j1 kj6 a1 a2 a4 t195 t208 t211 ((rd_T27 l0 t212).f0) ((rd_T27 l0 t212).f1) ((rd_T27 l0 t212).f2) ((rd_T27 l0 t212).f3))) else (none)) else (none))) = some r := H
    have A26 := Aside0.mk A260
    clear A260
    replace H := Option.bind_eq_some_iff.mp H
    obtain ⟨t212, A270, H⟩ := H
    replace H : (if 0 ≤ t212 then (if t212 < (l0.length : Int) then (if t206 = 0 then ((mounts_Of.f kj6 t199 a4).bind fun t215 => ((cantonref14_Right.f kj6 t199).bind fun t216 => (if t216 = true then (if t215 < 0 then (some false) else (if t215 ≥ (t199.length : Int) then (some false) else (if 0 ≤ t215 then (if t215 < (t199.length : Int) then (if ((rd_T27 t199 t215).f1) = ((rd_T27 l0 t212).f1) then (cantonlaw14_MountsKeep.j1 kj6 a1 a2 a4 t195 t208 t211 ((rd_T27 l0 t212).f0) ((rd_T27 l0 t212).f1) ((rd_T27 l0 t212).f2) ((rd_T27 l0 t212).f3)) else (some false)) else (none)) else (none)))) else (some false)))) else (cantonlaw14_MountsKeep.j1 kj6 a1 a2 a4 t195 t208 t211 ((rd_T27 l0 t212).f0) ((rd_T27 l0 t212).f1) ((rd_T27 l0 t212).f2) ((rd_T27 l0 t212).f3))) else (none)) else (none)) = some r := H
    have A27 := Aside0.mk A270
    clear A270
    by_cases c28 : 0 ≤ t212
    ·rw [if_pos c28] at H
     have c28b0 : decide (0 ≤ t212) = true := decide_eq_true c28
     clear c28
     by_cases c29 : t212 < (l0.length : Int)
     ·rw [if_pos c29] at H
      have c29b0 : decide (t212 < (l0.length : Int)) = true := decide_eq_true c29
      clear c29
      have HC30 := Aside0.mk H
      clear H
      go_upto_if 67 with (first | ((with_reducible refine gate_callee (f := 12) rfl ?_); refine goesL_ (some 48) rfl rfl Try.func12 (by kernel_rfl) rfl #[.slice A0 l0.length c0, .string a1, .int .i64 a2] rfl (by (try simp only [List.map_toArray, List.map_cons, List.map_nil]); first | done | rfl | (simp only [List.length_drop, List.length_take]; rfl)) ?_; (with_reducible refine (mounts_Begin.calls (fun k_ => k_ < w.heap.size) _ _ l0 a1 a2 t199 t202 t203 t204 t205 t206 _ ?side1 A25.out).mono ?_); (case side1 => exact Kd.V_mk HC0.out (Kd.F_below (Kd.C_F k27_heap HR0.out) (by repeat (first | (with_reducible first | exact HB.out | apply below_alloc | apply pw_below_drewN | apply below_drew1) | exact HB.out)))); rintro e w31 ⟨v200, rfl, ho0, hb⟩; refine ⟨_, rfl, ?_⟩; have n0_ := Aside0.mk (Kd.V_lower (Kd.V_mono (ok' := fun k_ => True) ho0 (fun k_ hk_ => trivial)) (below_size (by repeat (first | (with_reducible first | exact HB.out | apply below_alloc | apply pw_below_drewN | apply below_drew1) | exact HB.out)))); have n1_ := Aside0.mk (below_step (by repeat (first | (with_reducible first | exact HB.out | apply below_alloc | apply pw_below_drewN | apply below_drew1) | exact HB.out)) hb); clear HB; have HO201 := n0_; have HB := n1_; clear n0_ n1_; (try clear hb); (try clear hb2); (try clear hk); (try clear hi); (try clear ho0)) | ((with_reducible refine gate_dst (N := 13) rfl ?_); (try (refine gate_guard (by rfl) ?_; dsimp only)); refine box_event ?hg (N := 13) ?hd (cs := #[.string (⟨#[]⟩ : ByteArray), .int .i64 0, .int .i64 0, .int .i64 0]) (t := 27) ?hr ?_; (case hd => rfl); (case hg => rfl); (case hr => first | (go_simp; done) | (go_simp; rfl)); intro gb207 hg w32 hbox hb; have n0_ := Aside0.mk (Kd.V_below (Kd.V_elderB (by (with_reducible repeat (first | apply Kd.V_alloc | apply Kd.V_drewN | apply Kd.V_drew)); exact HO201.out) gb207 (Nat.le_of_eq hg.symm)) hb); have n1_ := Aside0.mk (below_step (by repeat (first | (with_reducible first | exact HB.out | apply below_alloc | apply pw_below_drewN | apply below_drew1) | exact HB.out)) hb); have n2_ := Aside0.mk (hbox); have n3_ := Aside0.mk ((by rw [hg]; exact (below_size (by repeat (first | (with_reducible first | exact HB.out | apply below_alloc | apply pw_below_drewN | apply below_drew1) | exact HB.out))) : w.heap.size ≤ gb207)); have n4_ := Aside0.mk ((by rw [hg]; exact (below_size (by repeat (first | (with_reducible first | exact HB.out | apply below_alloc | apply pw_below_drewN | apply below_drew1) | exact HB.out))) : w.heap.size ≤ gb207)); clear HO201; clear HB; have HO201 := n0_; have HB := n1_; have BK207 := n2_; have GW207 := n3_; have GE207 := n4_; clear n0_ n1_ n2_ n3_ n4_; clear hb hbox hg; have hcz33_0 : w32.cell? ⟨gb207, 0, none⟩ = some (.string (⟨#[]⟩ : ByteArray)) := (blk_cell BK207.out 0).trans rfl; have hcz33_1 : w32.cell? ⟨gb207, 1, none⟩ = some (.int .i64 0) := (blk_cell BK207.out 1).trans rfl; have hcz33_2 : w32.cell? ⟨gb207, 2, none⟩ = some (.int .i64 0) := (blk_cell BK207.out 2).trans rfl; have hcz33_3 : w32.cell? ⟨gb207, 3, none⟩ = some (.int .i64 0) := (blk_cell BK207.out 3).trans rfl; have hfz33_0 := blk_frozen BK207.out 0; have hfz33_1 := blk_frozen BK207.out 1; have hfz33_2 := blk_frozen BK207.out 2; have hfz33_3 := blk_frozen BK207.out 3) | ((with_reducible refine gate_store (t := 27) (p := 13) rfl ?_); refine store_event (t := 27) (p := 13) (v := ?vo_w34) (w1 := ((((w32.setCell ⟨gb207, 0, none⟩ (.string t202)).setCell ⟨gb207, 1, none⟩ (.int .i64 t203)).setCell ⟨gb207, 2, none⟩ (.int .i64 t204)).setCell ⟨gb207, 3, none⟩ (.int .i64 t205))) ?hg ?ho ?hn ?hr ?_; (case ho => rfl); (case hg => rfl); (case hn => rfl); (case hr => first | (go_simp; done) | (go_simp; rfl)); intro w34 hw; have n0_ : Aside0 (Kd.V k27 27 w34 w.heap.size (fun k_ => k_ ≠ gb207) v200 t199) := ⟨(by rw [hw]; exact (by (with_reducible repeat (first | apply Kd.V_alloc | apply Kd.V_drewN | apply Kd.V_drew)); exact Kd.V_mono (Kd.V_far (p := ⟨gb207, 3, none⟩) (Kd.V_far (p := ⟨gb207, 2, none⟩) (Kd.V_far (p := ⟨gb207, 1, none⟩) (Kd.V_far (p := ⟨gb207, 0, none⟩) (Kd.V_mono HO201.out (fun k_ hk => (⟨hk, hk.2⟩ : _ ∧ k_ ≠ gb207))) (fun _ hk => hk.2) (.string t202)) (fun _ hk => hk.2) (.int .i64 t203)) (fun _ hk => hk.2) (.int .i64 t204)) (fun _ hk => hk.2) (.int .i64 t205)) (fun _ hk => hk.1.2)))⟩; have n1_ : Aside0 (w34.heap[gb207]? = some (.cells #[.string t202, .int .i64 t203, .int .i64 t204, .int .i64 t205] 27 (0, 0))) := ⟨(by rw [hw]; exact (by (with_reducible repeat (first | refine blk_drewN ?_ _ | refine blk_drew ?_ | refine blk_alloc ?_ _)); refine blk_put (cs := #[.string t202, .int .i64 t203, .int .i64 t204, .int .i64 0]) ?_ 3 _ rfl; (with_reducible repeat (first | refine blk_drewN ?_ _ | refine blk_drew ?_ | refine blk_alloc ?_ _)); refine blk_put (cs := #[.string t202, .int .i64 t203, .int .i64 0, .int .i64 0]) ?_ 2 _ rfl; (with_reducible repeat (first | refine blk_drewN ?_ _ | refine blk_drew ?_ | refine blk_alloc ?_ _)); refine blk_put (cs := #[.string t202, .int .i64 0, .int .i64 0, .int .i64 0]) ?_ 1 _ rfl; (with_reducible repeat (first | refine blk_drewN ?_ _ | refine blk_drew ?_ | refine blk_alloc ?_ _)); refine blk_put (cs := #[.string (⟨#[]⟩ : ByteArray), .int .i64 0, .int .i64 0, .int .i64 0]) ?_ 0 _ rfl; (with_reducible repeat (first | refine blk_drewN ?_ _ | refine blk_drew ?_ | refine blk_alloc ?_ _)); exact BK207.out))⟩; have n2_ : Aside0 (Below w.heap.size w w34) := ⟨(by rw [hw]; exact (by repeat (first | (with_reducible first | exact HB.out | apply below_alloc | apply pw_below_drewN | apply below_drew1 | refine below_set ?_ GE207.out) | exact HB.out)))⟩; clear hw; clear HO201; clear BK207; clear HB; have HO201 := n0_; have BK207 := n1_; have HB := n2_; clear n0_ n1_ n2_) | ((with_reducible refine gate_callee (f := 13) rfl ?_); refine goesL_ (some 57) rfl rfl Try.func13 (by kernel_rfl) rfl #[.slice A0 l0.length c0, .string a1, .int .i64 a3, .int .i64 a2] rfl (by (try simp only [List.map_toArray, List.map_cons, List.map_nil]); first | done | rfl | (simp only [List.length_drop, List.length_take]; rfl)) ?_; (with_reducible refine (mounts_Flip.calls (fun k_ => k_ < w.heap.size) _ _ l0 a1 a3 a2 t208 t211 _ ?side1 A26.out).mono ?_); (case side1 => exact Kd.V_mk HC0.out (Kd.F_below (Kd.C_F k27_heap HR0.out) (by repeat (first | (with_reducible first | exact HB.out | apply below_alloc | apply pw_below_drewN | apply below_drew1 | refine below_set ?_ GE207.out) | exact HB.out)))); rintro e w35 ⟨v209, rfl, ho0, hb⟩; refine ⟨_, rfl, ?_⟩; have n0_ := Aside0.mk (Kd.V_below (by (with_reducible repeat (first | apply Kd.V_alloc | apply Kd.V_drewN | apply Kd.V_drew)); exact HO201.out) hb); have n1_ := Aside0.mk (Kd.V_lower (Kd.V_mono (ok' := fun k_ => k_ ≠ gb207) ho0 (fun k_ hk_ => Or.elim hk_ (fun hs_ => fun e_ => Nat.not_le.2 hs_ (by rw [e_]; exact GW207.out)) (fun hn_ => (Kd.freshB (g := gb207) (o := .cells #[.string t202, .int .i64 t203, .int .i64 t204, .int .i64 t205] 27 (0, 0)) (by (with_reducible repeat (first | refine blk_drewN ?_ _ | refine blk_drew ?_ | refine blk_alloc ?_ _)); exact BK207.out) k_ hn_)))) (below_size (by repeat (first | (with_reducible first | exact HB.out | apply below_alloc | apply pw_below_drewN | apply below_drew1 | refine below_set ?_ GE207.out) | exact HB.out)))); have n2_ := Aside0.mk (blk_below (g := gb207) (o := .cells #[.string t202, .int .i64 t203, .int .i64 t204, .int .i64 t205] 27 (0, 0)) (by (with_reducible repeat (first | refine blk_drewN ?_ _ | refine blk_drew ?_ | refine blk_alloc ?_ _)); exact BK207.out) hb); have n3_ := Aside0.mk (below_step (by repeat (first | (with_reducible first | exact HB.out | apply below_alloc | apply pw_below_drewN | apply below_drew1 | refine below_set ?_ GE207.out) | exact HB.out)) hb); clear HO201; clear BK207; clear HB; have HO201 := n0_; have HO210 := n1_; have BK207 := n2_; have HB := n3_; clear n0_ n1_ n2_ n3_; (try clear hb); (try clear hb2); (try clear hk); (try clear hi); (try clear ho0)) | ((with_reducible refine gate_callee (f := 14) rfl ?_); refine goesL_ (some 63) rfl rfl Try.func14 (by kernel_rfl) rfl #[.slice A0 l0.length c0, .string a4] rfl (by (try simp only [List.map_toArray, List.map_cons, List.map_nil]); first | done | rfl | (simp only [List.length_drop, List.length_take]; rfl)) ?_; (with_reducible refine (cantonref14_Of.calls kj6 _ _ l0 a4 t212 _ ?side1 ?side2 A27.out).mono ?_); (case side1 => repeat (first | exact (Kd.C_below HR0.out HB.out) | (with_reducible refine Kd.C_alloc ?_ _) | (with_reducible refine Kd.C_drewN ?_ _) | (with_reducible refine Kd.C_drew ?_))); (case side2 => exact HC0.out); rintro e w36 ⟨rfl, hb⟩; refine ⟨_, rfl, ?_⟩; have n0_ := Aside0.mk (Kd.V_below (by (with_reducible repeat (first | apply Kd.V_alloc | apply Kd.V_drewN | apply Kd.V_drew)); exact HO201.out) hb); have n1_ := Aside0.mk (Kd.V_below (by (with_reducible repeat (first | apply Kd.V_alloc | apply Kd.V_drewN | apply Kd.V_drew)); exact HO210.out) hb); have n2_ := Aside0.mk (blk_below (g := gb207) (o := .cells #[.string t202, .int .i64 t203, .int .i64 t204, .int .i64 t205] 27 (0, 0)) (by (with_reducible repeat (first | refine blk_drewN ?_ _ | refine blk_drew ?_ | refine blk_alloc ?_ _)); exact BK207.out) hb); have n3_ := Aside0.mk (below_step (by repeat (first | (with_reducible first | exact HB.out | apply below_alloc | apply pw_below_drewN | apply below_drew1 | refine below_set ?_ GE207.out) | exact HB.out)) hb); clear HO201; clear HO210; clear BK207; clear HB; have HO201 := n0_; have HO210 := n1_; have BK207 := n2_; have HB := n3_; clear n0_ n1_ n2_ n3_; (try clear hb); (try clear hb2); (try clear hk); (try clear hi); have p213 : 0 ≤ (t212 : Int) := of_decide_eq_true (by first | (with_reducible assumption) | assumption); have q213 : t212 < (l0.length : Int) := of_decide_eq_true (by first | (with_reducible assumption) | assumption); obtain ⟨ad213, e213, hx213_0, hx213_1, hx213_2, hx213_3⟩ := at_T27 HR0.out t212 p213 q213; cases e213; replace hx213_0 := (HB.out.cell (World.block_lt_of_cell? w _ hx213_0)).trans hx213_0; replace hx213_1 := (HB.out.cell (World.block_lt_of_cell? w _ hx213_1)).trans hx213_1; replace hx213_2 := (HB.out.cell (World.block_lt_of_cell? w _ hx213_2)).trans hx213_2; replace hx213_3 := (HB.out.cell (World.block_lt_of_cell? w _ hx213_3)).trans hx213_3; replace p213 := eq_true p213; replace q213 := eq_true q213) | ((with_reducible refine gate_dst (N := 17) rfl ?_); (try (refine gate_guard (by rfl) ?_; dsimp only)); refine box_event ?hg (N := 17) ?hd (cs := #[.string (⟨#[]⟩ : ByteArray), .int .i64 0, .int .i64 0, .int .i64 0]) (t := 27) ?hr ?_; (case hd => rfl); (case hg => rfl); (case hr => first | (go_simp; done) | (go_simp; rfl)); intro gb214 hg w37 hbox hb; have n0_ := Aside0.mk (Kd.V_below (Kd.V_elderB (by (with_reducible repeat (first | apply Kd.V_alloc | apply Kd.V_drewN | apply Kd.V_drew)); exact HO201.out) gb214 (Nat.le_of_eq hg.symm)) hb); have n1_ := Aside0.mk (Kd.V_below (Kd.V_elderB (by (with_reducible repeat (first | apply Kd.V_alloc | apply Kd.V_drewN | apply Kd.V_drew)); exact HO210.out) gb214 (Nat.le_of_eq hg.symm)) hb); have n2_ := Aside0.mk (blk_below (g := gb207) (o := .cells #[.string t202, .int .i64 t203, .int .i64 t204, .int .i64 t205] 27 (0, 0)) (by (with_reducible repeat (first | refine blk_drewN ?_ _ | refine blk_drew ?_ | refine blk_alloc ?_ _)); exact BK207.out) hb); have n3_ := Aside0.mk (below_step (by repeat (first | (with_reducible first | exact HB.out | apply below_alloc | apply pw_below_drewN | apply below_drew1 | refine below_set ?_ GE207.out) | exact HB.out)) hb); have n4_ := Aside0.mk (hbox); have n5_ := Aside0.mk ((by rw [hg]; exact (below_size (by repeat (first | (with_reducible first | exact HB.out | apply below_alloc | apply pw_below_drewN | apply below_drew1 | refine below_set ?_ GE207.out) | exact HB.out))) : w.heap.size ≤ gb214)); have n6_ := Aside0.mk ((by rw [hg]; exact (below_size (by repeat (first | (with_reducible first | exact HB.out | apply below_alloc | apply pw_below_drewN | apply below_drew1 | refine below_set ?_ GE207.out) | exact HB.out))) : w.heap.size ≤ gb214)); have n7_ := Aside0.mk ((by rw [hg]; exact Nat.ne_of_lt (blk_lt (g := gb207) (o := .cells #[.string t202, .int .i64 t203, .int .i64 t204, .int .i64 t205] 27 (0, 0)) (by (with_reducible repeat (first | refine blk_drewN ?_ _ | refine blk_drew ?_ | refine blk_alloc ?_ _)); exact BK207.out)) : gb207 ≠ gb214)); have n8_ := Aside0.mk ((by rw [hg]; exact Nat.ne_of_gt (blk_lt (g := gb207) (o := .cells #[.string t202, .int .i64 t203, .int .i64 t204, .int .i64 t205] 27 (0, 0)) (by (with_reducible repeat (first | refine blk_drewN ?_ _ | refine blk_drew ?_ | refine blk_alloc ?_ _)); exact BK207.out)) : gb214 ≠ gb207)); clear HO201; clear HO210; clear BK207; clear HB; have HO201 := n0_; have HO210 := n1_; have BK207 := n2_; have HB := n3_; have BK214 := n4_; have GW214 := n5_; have GE214 := n6_; have NB207_214 := n7_; have NB214_207 := n8_; clear n0_ n1_ n2_ n3_ n4_ n5_ n6_ n7_ n8_; clear hb hbox hg; have hnb38 := NB214_207.out; have hnc38 := NB207_214.out; have hcz39_0 : w37.cell? ⟨gb214, 0, none⟩ = some (.string (⟨#[]⟩ : ByteArray)) := (blk_cell BK214.out 0).trans rfl; have hcz39_1 : w37.cell? ⟨gb214, 1, none⟩ = some (.int .i64 0) := (blk_cell BK214.out 1).trans rfl; have hcz39_2 : w37.cell? ⟨gb214, 2, none⟩ = some (.int .i64 0) := (blk_cell BK214.out 2).trans rfl; have hcz39_3 : w37.cell? ⟨gb214, 3, none⟩ = some (.int .i64 0) := (blk_cell BK214.out 3).trans rfl; have hfz39_0 := blk_frozen BK214.out 0; have hfz39_1 := blk_frozen BK214.out 1; have hfz39_2 := blk_frozen BK214.out 2; have hfz39_3 := blk_frozen BK214.out 3))
      (try simp only [Act.put, List.setIfInBounds_toArray, List.set_cons_zero, List.set_cons_succ])
      go_cut [] (fun wc => ∃ (kq : Nat), Aside0 (cantonlaw14_MountsKeep.j1 kq a1 a2 a4 t195 t208 t211 ((rd_T27 l0 t212).f0) ((rd_T27 l0 t212).f1) ((rd_T27 l0 t212).f2) ((rd_T27 l0 t212).f3) = some r) ∧ Aside0 (kq ≤ kj6) ∧ Aside0 (Kd.V k27 27 wc w.heap.size (fun k_ => k_ ≠ gb207 ∧ k_ ≠ gb214) v209 t208) ∧ Aside0 (wc.heap[gb207]? = some (.cells #[.string t202, .int .i64 t203, .int .i64 t204, .int .i64 t205] 27 (0, 0))) ∧ Aside0 (wc.heap[gb214]? = some (.cells #[.string ((rd_T27 l0 t212).f0), .int .i64 ((rd_T27 l0 t212).f1), .int .i64 ((rd_T27 l0 t212).f2), .int .i64 ((rd_T27 l0 t212).f3)] 27 (0, 0))) ∧ Aside0 (Below w.heap.size w wc))
      case first =>
       have H := HC30.out
       clear HC30
       by_cases c40 : t206 = 0
       ·rw [if_pos c40] at H
        have c40b0 : (t206 == 0) = true := beq_iff_eq.mpr c40
        have c40b1 : (t206 != 0) = false := bne_eq_false_iff_eq.mpr c40
        clear c40
        (first | rw [c40b0] | (simp only [i64_w, i32_w]; rw [c40b0]) | skip)
        replace H := Option.bind_eq_some_iff.mp H
        obtain ⟨t215, A410, H⟩ := H
        replace H : ((cantonref14_Right.f kj6 t199).bind fun t216 => (if t216 = true then (if t215 < 0 then (some false) else (if t215 ≥ (t199.length : Int) then (some false) else (if 0 ≤ t215 then (if t215 < (t199.length : Int) then (if ((rd_T27 t199 t215).f1) = ((rd_T27 l0 t212).f1) then (cantonlaw14_MountsKeep.j1 kj6 a1 a2 a4 t195 t208 t211 ((rd_T27 l0 t212).f0) ((rd_T27 l0 t212).f1) ((rd_T27 l0 t212).f2) ((rd_T27 l0 t212).f3)) else (some false)) else (none)) else (none)))) else (some false))) = some r := H
        have A41 := Aside0.mk A410
        clear A410
        replace H := Option.bind_eq_some_iff.mp H
        obtain ⟨t216, A420, H⟩ := H
        replace H : (if t216 = true then (if t215 < 0 then (some false) else (if t215 ≥ (t199.length : Int) then (some false) else (if 0 ≤ t215 then (if t215 < (t199.length : Int) then (if ((rd_T27 t199 t215).f1) = ((rd_T27 l0 t212).f1) then (cantonlaw14_MountsKeep.j1 kj6 a1 a2 a4 t195 t208 t211 ((rd_T27 l0 t212).f0) ((rd_T27 l0 t212).f1) ((rd_T27 l0 t212).f2) ((rd_T27 l0 t212).f3)) else (some false)) else (none)) else (none)))) else (some false)) = some r := H
        have A42 := Aside0.mk A420
        clear A420
        by_cases c43 : t216 = true
        ·subst c43
         have H1 : (if t215 < 0 then (some false) else (if t215 ≥ (t199.length : Int) then (some false) else (if 0 ≤ t215 then (if t215 < (t199.length : Int) then (if ((rd_T27 t199 t215).f1) = ((rd_T27 l0 t212).f1) then (cantonlaw14_MountsKeep.j1 kj6 a1 a2 a4 t195 t208 t211 ((rd_T27 l0 t212).f0) ((rd_T27 l0 t212).f1) ((rd_T27 l0 t212).f2) ((rd_T27 l0 t212).f3)) else (some false)) else (none)) else (none)))) = some r := by rw [if_pos rfl] at H; exact H
         clear H
         have H := H1
         clear H1
         by_cases c44 : t215 < 0
         ·rw [if_pos c44] at H
          have c44b0 : decide (t215 < 0) = true := decide_eq_true c44
          clear c44
          obtain rfl := Option.some.inj H
          obtain ⟨Ao45, co45, eo45⟩ := Kd.V_slice HO201.out
          subst eo45
          try go_wp2_with (first | ((with_reducible refine gate_callee (f := 15) rfl ?_); refine goesL_ (some 70) rfl rfl Try.func15 (by kernel_rfl) rfl #[.slice Ao45 t199.length co45, .string a4] rfl (by (try simp only [List.map_toArray, List.map_cons, List.map_nil]); first | done | rfl | (simp only [List.length_drop, List.length_take]; rfl)) ?_; (with_reducible refine (mounts_Of.calls kj6 _ _ t199 a4 t215 _ ?side1 ?side2 A41.out).mono ?_); (case side1 => refine (Kd.V_reads' (e := 27) (base := w.heap.size) (ok := fun k_ => (k_ ≠ gb207 ∧ k_ ≠ gb214)) (n := t199.length) (c := co45) ?_).2.2; exact (by (with_reducible repeat (first | apply Kd.V_alloc | apply Kd.V_drewN | apply Kd.V_drew)); exact (Kd.V_mono (Kd.V_far (p := ⟨gb214, 3, none⟩) (Kd.V_far (p := ⟨gb214, 2, none⟩) (Kd.V_far (p := ⟨gb214, 1, none⟩) (Kd.V_far (p := ⟨gb214, 0, none⟩) (Kd.V_mono HO201.out (fun k_ hk => (⟨hk, hk.2⟩ : _ ∧ k_ ≠ gb214))) (fun _ hk => hk.2) (.string ((rd_T27 l0 t212).f0))) (fun _ hk => hk.2) (.int .i64 ((rd_T27 l0 t212).f1))) (fun _ hk => hk.2) (.int .i64 ((rd_T27 l0 t212).f2))) (fun _ hk => hk.2) (.int .i64 ((rd_T27 l0 t212).f3))) (fun _ h_ => h_.1)))); (case side2 => exact (Kd.V_reads' HO201.out).2.1); rintro e w46 ⟨rfl, hb⟩; refine ⟨_, rfl, ?_⟩; have n0_ := Aside0.mk (Kd.V_below (by (with_reducible repeat (first | apply Kd.V_alloc | apply Kd.V_drewN | apply Kd.V_drew)); exact (Kd.V_mono (Kd.V_far (p := ⟨gb214, 3, none⟩) (Kd.V_far (p := ⟨gb214, 2, none⟩) (Kd.V_far (p := ⟨gb214, 1, none⟩) (Kd.V_far (p := ⟨gb214, 0, none⟩) (Kd.V_mono HO201.out (fun k_ hk => (⟨hk, hk.2⟩ : _ ∧ k_ ≠ gb214))) (fun _ hk => hk.2) (.string ((rd_T27 l0 t212).f0))) (fun _ hk => hk.2) (.int .i64 ((rd_T27 l0 t212).f1))) (fun _ hk => hk.2) (.int .i64 ((rd_T27 l0 t212).f2))) (fun _ hk => hk.2) (.int .i64 ((rd_T27 l0 t212).f3))) (fun _ h_ => h_.1))) hb); have n1_ := Aside0.mk (Kd.V_below (by (with_reducible repeat (first | apply Kd.V_alloc | apply Kd.V_drewN | apply Kd.V_drew)); exact (Kd.V_mono (Kd.V_far (p := ⟨gb214, 3, none⟩) (Kd.V_far (p := ⟨gb214, 2, none⟩) (Kd.V_far (p := ⟨gb214, 1, none⟩) (Kd.V_far (p := ⟨gb214, 0, none⟩) (Kd.V_mono HO210.out (fun k_ hk => (⟨hk, hk.2⟩ : _ ∧ k_ ≠ gb214))) (fun _ hk => hk.2) (.string ((rd_T27 l0 t212).f0))) (fun _ hk => hk.2) (.int .i64 ((rd_T27 l0 t212).f1))) (fun _ hk => hk.2) (.int .i64 ((rd_T27 l0 t212).f2))) (fun _ hk => hk.2) (.int .i64 ((rd_T27 l0 t212).f3))) (fun _ h_ => h_.1))) hb); have n2_ := Aside0.mk (blk_below (g := gb207) (o := .cells #[.string t202, .int .i64 t203, .int .i64 t204, .int .i64 t205] 27 (0, 0)) (by (with_reducible repeat (first | refine blk_drewN ?_ _ | refine blk_drew ?_ | refine blk_alloc ?_ _)); refine blk_far ?_ NB207_214.out _; (with_reducible repeat (first | refine blk_drewN ?_ _ | refine blk_drew ?_ | refine blk_alloc ?_ _)); refine blk_far ?_ NB207_214.out _; (with_reducible repeat (first | refine blk_drewN ?_ _ | refine blk_drew ?_ | refine blk_alloc ?_ _)); refine blk_far ?_ NB207_214.out _; (with_reducible repeat (first | refine blk_drewN ?_ _ | refine blk_drew ?_ | refine blk_alloc ?_ _)); refine blk_far ?_ NB207_214.out _; (with_reducible repeat (first | refine blk_drewN ?_ _ | refine blk_drew ?_ | refine blk_alloc ?_ _)); exact BK207.out) hb); have n3_ := Aside0.mk (blk_below (g := gb214) (o := .cells #[.string ((rd_T27 l0 t212).f0), .int .i64 ((rd_T27 l0 t212).f1), .int .i64 ((rd_T27 l0 t212).f2), .int .i64 ((rd_T27 l0 t212).f3)] 27 (0, 0)) (by (with_reducible repeat (first | refine blk_drewN ?_ _ | refine blk_drew ?_ | refine blk_alloc ?_ _)); refine blk_put (cs := #[.string ((rd_T27 l0 t212).f0), .int .i64 ((rd_T27 l0 t212).f1), .int .i64 ((rd_T27 l0 t212).f2), .int .i64 0]) ?_ 3 _ rfl; (with_reducible repeat (first | refine blk_drewN ?_ _ | refine blk_drew ?_ | refine blk_alloc ?_ _)); refine blk_put (cs := #[.string ((rd_T27 l0 t212).f0), .int .i64 ((rd_T27 l0 t212).f1), .int .i64 0, .int .i64 0]) ?_ 2 _ rfl; (with_reducible repeat (first | refine blk_drewN ?_ _ | refine blk_drew ?_ | refine blk_alloc ?_ _)); refine blk_put (cs := #[.string ((rd_T27 l0 t212).f0), .int .i64 0, .int .i64 0, .int .i64 0]) ?_ 1 _ rfl; (with_reducible repeat (first | refine blk_drewN ?_ _ | refine blk_drew ?_ | refine blk_alloc ?_ _)); refine blk_put (cs := #[.string (⟨#[]⟩ : ByteArray), .int .i64 0, .int .i64 0, .int .i64 0]) ?_ 0 _ rfl; (with_reducible repeat (first | refine blk_drewN ?_ _ | refine blk_drew ?_ | refine blk_alloc ?_ _)); exact BK214.out) hb); have n4_ := Aside0.mk (below_step (by repeat (first | (with_reducible first | exact HB.out | apply below_alloc | apply pw_below_drewN | apply below_drew1 | refine below_set ?_ GE207.out | refine below_set ?_ GE214.out) | exact HB.out)) hb); clear HO201; clear HO210; clear BK207; clear BK214; clear HB; have HO201 := n0_; have HO210 := n1_; have BK207 := n2_; have BK214 := n3_; have HB := n4_; clear n0_ n1_ n2_ n3_ n4_; (try clear hb); (try clear hb2); (try clear hk); (try clear hi)))
          have n0_ := Aside0.mk (Kd.V_drew HO201.out)
          have n1_ := Aside0.mk (Kd.V_drew HO210.out)
          have n2_ := Aside0.mk (blk_drew BK207.out)
          have n3_ := Aside0.mk (blk_drew BK214.out)
          have n4_ := Aside0.mk (below_drew1 HB.out)
          clear HO201
          clear HO210
          clear BK207
          clear BK214
          clear HB
          have HO201 := n0_
          have HO210 := n1_
          have BK207 := n2_
          have BK214 := n3_
          have HB := n4_
          clear n0_ n1_ n2_ n3_ n4_
          refine start_ (n := 23) (S := fun w' => True) (ds := []) x11tr23_0 (by kernel_rfl) rfl rfl trivial (fun hHeld => ?_); refine with_tabW cantonlaw14_MountsKeep.tab9 cantonlaw14_MountsKeep.bits9 (fun HT_ HW_ => ?_)
          generalize w46.drew = w47 at HO201 HO210 BK207 BK214 HB hHeld ⊢
          refine pA_ 0 71 x11tr23_1 HT_.out ?_
          refine one_ (i := 1) (N := some 72) x11tr23_2 rfl rfl (one_of HT_.out (by kernel_rfl)) (by decide) (fun K hK => ?_)
          refine goes_ Try.func10 (by kernel_rfl) rfl #[.slice Ao45 t199.length co45] (by rfl) rfl rfl (by (try simp only [List.map_toArray, List.map_cons, List.map_nil]); first | done | rfl | (simp only [List.length_drop, List.length_take]; rfl)) ?_
          with_reducible refine (cantonref14_Right.calls kj6 _ _ t199 true _ ?side1 ?side2 A42.out).mono ?_
          (case side1 => repeat (first | exact (Kd.V_reads' HO201.out).2.2 | (with_reducible refine Kd.C_alloc ?_ _) | (with_reducible refine Kd.C_drewN ?_ _) | (with_reducible refine Kd.C_drew ?_)))
          (case side2 => exact (Kd.V_reads' HO201.out).2.1)
          rintro e w48 ⟨rfl, hb⟩
          refine ⟨_, rfl, ?_⟩
          have n0_ := Aside0.mk (Kd.V_below (by (with_reducible repeat (first | apply Kd.V_alloc | apply Kd.V_drewN | apply Kd.V_drew)); exact HO201.out) hb)
          have n1_ := Aside0.mk (Kd.V_below (by (with_reducible repeat (first | apply Kd.V_alloc | apply Kd.V_drewN | apply Kd.V_drew)); exact HO210.out) hb)
          have n2_ := Aside0.mk (blk_below (g := gb207) (o := .cells #[.string t202, .int .i64 t203, .int .i64 t204, .int .i64 t205] 27 (0, 0)) (by (with_reducible repeat (first | refine blk_drewN ?_ _ | refine blk_drew ?_ | refine blk_alloc ?_ _)); exact BK207.out) hb)
          have n3_ := Aside0.mk (blk_below (g := gb214) (o := .cells #[.string ((rd_T27 l0 t212).f0), .int .i64 ((rd_T27 l0 t212).f1), .int .i64 ((rd_T27 l0 t212).f2), .int .i64 ((rd_T27 l0 t212).f3)] 27 (0, 0)) (by (with_reducible repeat (first | refine blk_drewN ?_ _ | refine blk_drew ?_ | refine blk_alloc ?_ _)); exact BK214.out) hb)
          have n4_ := Aside0.mk (below_step (by repeat (first | (with_reducible first | exact HB.out | apply below_alloc | apply pw_below_drewN | apply below_drew1 | refine below_set ?_ GE207.out | refine below_set ?_ GE214.out) | exact HB.out)) hb)
          clear HO201
          clear HO210
          clear BK207
          clear BK214
          clear HB
          have HO201 := n0_
          have HO210 := n1_
          have BK207 := n2_
          have BK214 := n3_
          have HB := n4_
          clear n0_ n1_ n2_ n3_ n4_
          (try clear hb)
          (try clear hb2)
          (try clear hk)
          (try clear hi)
          refine hK.out _ _ trivial (fun hHeld => ?_)
          clear hK K
          refine norm_ (a' := ?_) ?_ ?_
          rotate_left
          ·show Act.put _ (some 72) _ = _
           simp only [Act.put, List.setIfInBounds_toArray, List.set_cons_zero, List.set_cons_succ, i64_w, i32_w]
           rfl
          refine pA_ 2 73 x11tr23_3 HT_.out ?_
          refine pA_ 3 74 x11tr23_4 HT_.out ?_
          refine pA_ 4 75 x11tr23_5 HT_.out ?_
          refine pA_ 5 76 x11tr23_6 HT_.out ?_
          refine pA_ 6 77 x11tr23_7 HT_.out ?_
          refine pA_ 7 78 x11tr23_8 HT_.out ?_
          refine pU_ 8 79 x11tr23_9 HT_.out ?_
          refine pU_ 9 80 x11tr23_10 HT_.out ?_
          refine pU_ 10 81 x11tr23_11 HT_.out ?_
          refine pU_ 11 82 x11tr23_12 HT_.out ?_
          refine pA_ 12 83 x11tr23_13 HT_.out ?_
          refine pA_ 13 84 x11tr23_14 HT_.out ?_
          refine pU_ 14 85 x11tr23_15 HT_.out ?_
          refine pU_ 15 86 x11tr23_16 HT_.out ?_
          refine pU_ 16 87 x11tr23_17 HT_.out ?_
          refine pU_ 17 88 x11tr23_18 HT_.out ?_
          refine pU_ 18 89 x11tr23_19 HT_.out ?_
          refine pU_ 19 90 x11tr23_20 HT_.out ?_
          refine pU_ 20 91 x11tr23_21 HT_.out ?_
          refine pU_ 21 92 x11tr23_22 HT_.out ?_
          refine pA_ 22 93 x11tr23_23 HT_.out ?_
          refine done_ (done_of HT_.out (by kernel_rfl)) ?_
          try go_wp2
          go_ret
          exact ⟨by first | rfl | (simp [errW_none, errW_some] <;> rfl) | (simp [*, errW_none, errW_some] <;> rfl), by repeat (first | (with_reducible first | exact HB.out | apply below_alloc | apply pw_below_drewN | apply below_drew1 | refine below_set ?_ GE207.out | refine below_set ?_ GE214.out) | exact HB.out)⟩
         ·rw [if_neg c44] at H
          have c44b0 : decide (t215 < 0) = false := decide_eq_false c44
          clear c44
          by_cases c49 : t215 ≥ (t199.length : Int)
          ·rw [if_pos c49] at H
           have c49b0 : decide ((t199.length : Int) ≤ t215) = true := decide_eq_true c49
           clear c49
           obtain rfl := Option.some.inj H
           obtain ⟨Ao50, co50, eo50⟩ := Kd.V_slice HO201.out
           subst eo50
           try go_wp2_with (first | ((with_reducible refine gate_callee (f := 15) rfl ?_); refine goesL_ (some 70) rfl rfl Try.func15 (by kernel_rfl) rfl #[.slice Ao50 t199.length co50, .string a4] rfl (by (try simp only [List.map_toArray, List.map_cons, List.map_nil]); first | done | rfl | (simp only [List.length_drop, List.length_take]; rfl)) ?_; (with_reducible refine (mounts_Of.calls kj6 _ _ t199 a4 t215 _ ?side1 ?side2 A41.out).mono ?_); (case side1 => refine (Kd.V_reads' (e := 27) (base := w.heap.size) (ok := fun k_ => (k_ ≠ gb207 ∧ k_ ≠ gb214)) (n := t199.length) (c := co50) ?_).2.2; exact (by (with_reducible repeat (first | apply Kd.V_alloc | apply Kd.V_drewN | apply Kd.V_drew)); exact (Kd.V_mono (Kd.V_far (p := ⟨gb214, 3, none⟩) (Kd.V_far (p := ⟨gb214, 2, none⟩) (Kd.V_far (p := ⟨gb214, 1, none⟩) (Kd.V_far (p := ⟨gb214, 0, none⟩) (Kd.V_mono HO201.out (fun k_ hk => (⟨hk, hk.2⟩ : _ ∧ k_ ≠ gb214))) (fun _ hk => hk.2) (.string ((rd_T27 l0 t212).f0))) (fun _ hk => hk.2) (.int .i64 ((rd_T27 l0 t212).f1))) (fun _ hk => hk.2) (.int .i64 ((rd_T27 l0 t212).f2))) (fun _ hk => hk.2) (.int .i64 ((rd_T27 l0 t212).f3))) (fun _ h_ => h_.1)))); (case side2 => exact (Kd.V_reads' HO201.out).2.1); rintro e w51 ⟨rfl, hb⟩; refine ⟨_, rfl, ?_⟩; have n0_ := Aside0.mk (Kd.V_below (by (with_reducible repeat (first | apply Kd.V_alloc | apply Kd.V_drewN | apply Kd.V_drew)); exact (Kd.V_mono (Kd.V_far (p := ⟨gb214, 3, none⟩) (Kd.V_far (p := ⟨gb214, 2, none⟩) (Kd.V_far (p := ⟨gb214, 1, none⟩) (Kd.V_far (p := ⟨gb214, 0, none⟩) (Kd.V_mono HO201.out (fun k_ hk => (⟨hk, hk.2⟩ : _ ∧ k_ ≠ gb214))) (fun _ hk => hk.2) (.string ((rd_T27 l0 t212).f0))) (fun _ hk => hk.2) (.int .i64 ((rd_T27 l0 t212).f1))) (fun _ hk => hk.2) (.int .i64 ((rd_T27 l0 t212).f2))) (fun _ hk => hk.2) (.int .i64 ((rd_T27 l0 t212).f3))) (fun _ h_ => h_.1))) hb); have n1_ := Aside0.mk (Kd.V_below (by (with_reducible repeat (first | apply Kd.V_alloc | apply Kd.V_drewN | apply Kd.V_drew)); exact (Kd.V_mono (Kd.V_far (p := ⟨gb214, 3, none⟩) (Kd.V_far (p := ⟨gb214, 2, none⟩) (Kd.V_far (p := ⟨gb214, 1, none⟩) (Kd.V_far (p := ⟨gb214, 0, none⟩) (Kd.V_mono HO210.out (fun k_ hk => (⟨hk, hk.2⟩ : _ ∧ k_ ≠ gb214))) (fun _ hk => hk.2) (.string ((rd_T27 l0 t212).f0))) (fun _ hk => hk.2) (.int .i64 ((rd_T27 l0 t212).f1))) (fun _ hk => hk.2) (.int .i64 ((rd_T27 l0 t212).f2))) (fun _ hk => hk.2) (.int .i64 ((rd_T27 l0 t212).f3))) (fun _ h_ => h_.1))) hb); have n2_ := Aside0.mk (blk_below (g := gb207) (o := .cells #[.string t202, .int .i64 t203, .int .i64 t204, .int .i64 t205] 27 (0, 0)) (by (with_reducible repeat (first | refine blk_drewN ?_ _ | refine blk_drew ?_ | refine blk_alloc ?_ _)); refine blk_far ?_ NB207_214.out _; (with_reducible repeat (first | refine blk_drewN ?_ _ | refine blk_drew ?_ | refine blk_alloc ?_ _)); refine blk_far ?_ NB207_214.out _; (with_reducible repeat (first | refine blk_drewN ?_ _ | refine blk_drew ?_ | refine blk_alloc ?_ _)); refine blk_far ?_ NB207_214.out _; (with_reducible repeat (first | refine blk_drewN ?_ _ | refine blk_drew ?_ | refine blk_alloc ?_ _)); refine blk_far ?_ NB207_214.out _; (with_reducible repeat (first | refine blk_drewN ?_ _ | refine blk_drew ?_ | refine blk_alloc ?_ _)); exact BK207.out) hb); have n3_ := Aside0.mk (blk_below (g := gb214) (o := .cells #[.string ((rd_T27 l0 t212).f0), .int .i64 ((rd_T27 l0 t212).f1), .int .i64 ((rd_T27 l0 t212).f2), .int .i64 ((rd_T27 l0 t212).f3)] 27 (0, 0)) (by (with_reducible repeat (first | refine blk_drewN ?_ _ | refine blk_drew ?_ | refine blk_alloc ?_ _)); refine blk_put (cs := #[.string ((rd_T27 l0 t212).f0), .int .i64 ((rd_T27 l0 t212).f1), .int .i64 ((rd_T27 l0 t212).f2), .int .i64 0]) ?_ 3 _ rfl; (with_reducible repeat (first | refine blk_drewN ?_ _ | refine blk_drew ?_ | refine blk_alloc ?_ _)); refine blk_put (cs := #[.string ((rd_T27 l0 t212).f0), .int .i64 ((rd_T27 l0 t212).f1), .int .i64 0, .int .i64 0]) ?_ 2 _ rfl; (with_reducible repeat (first | refine blk_drewN ?_ _ | refine blk_drew ?_ | refine blk_alloc ?_ _)); refine blk_put (cs := #[.string ((rd_T27 l0 t212).f0), .int .i64 0, .int .i64 0, .int .i64 0]) ?_ 1 _ rfl; (with_reducible repeat (first | refine blk_drewN ?_ _ | refine blk_drew ?_ | refine blk_alloc ?_ _)); refine blk_put (cs := #[.string (⟨#[]⟩ : ByteArray), .int .i64 0, .int .i64 0, .int .i64 0]) ?_ 0 _ rfl; (with_reducible repeat (first | refine blk_drewN ?_ _ | refine blk_drew ?_ | refine blk_alloc ?_ _)); exact BK214.out) hb); have n4_ := Aside0.mk (below_step (by repeat (first | (with_reducible first | exact HB.out | apply below_alloc | apply pw_below_drewN | apply below_drew1 | refine below_set ?_ GE207.out | refine below_set ?_ GE214.out) | exact HB.out)) hb); clear HO201; clear HO210; clear BK207; clear BK214; clear HB; have HO201 := n0_; have HO210 := n1_; have BK207 := n2_; have BK214 := n3_; have HB := n4_; clear n0_ n1_ n2_ n3_ n4_; (try clear hb); (try clear hb2); (try clear hk); (try clear hi)))
           have n0_ := Aside0.mk (Kd.V_drew HO201.out)
           have n1_ := Aside0.mk (Kd.V_drew HO210.out)
           have n2_ := Aside0.mk (blk_drew BK207.out)
           have n3_ := Aside0.mk (blk_drew BK214.out)
           have n4_ := Aside0.mk (below_drew1 HB.out)
           clear HO201
           clear HO210
           clear BK207
           clear BK214
           clear HB
           have HO201 := n0_
           have HO210 := n1_
           have BK207 := n2_
           have BK214 := n3_
           have HB := n4_
           clear n0_ n1_ n2_ n3_ n4_
           refine start_ (n := 23) (S := fun w' => True) (ds := []) x11tr23_0 (by kernel_rfl) rfl rfl trivial (fun hHeld => ?_); refine with_tabW cantonlaw14_MountsKeep.tab9 cantonlaw14_MountsKeep.bits9 (fun HT_ HW_ => ?_)
           generalize w51.drew = w52 at HO201 HO210 BK207 BK214 HB hHeld ⊢
           refine pA_ 0 71 x11tr23_1 HT_.out ?_
           refine one_ (i := 1) (N := some 72) x11tr23_2 rfl rfl (one_of HT_.out (by kernel_rfl)) (by decide) (fun K hK => ?_)
           refine goes_ Try.func10 (by kernel_rfl) rfl #[.slice Ao50 t199.length co50] (by rfl) rfl rfl (by (try simp only [List.map_toArray, List.map_cons, List.map_nil]); first | done | rfl | (simp only [List.length_drop, List.length_take]; rfl)) ?_
           with_reducible refine (cantonref14_Right.calls kj6 _ _ t199 true _ ?side1 ?side2 A42.out).mono ?_
           (case side1 => repeat (first | exact (Kd.V_reads' HO201.out).2.2 | (with_reducible refine Kd.C_alloc ?_ _) | (with_reducible refine Kd.C_drewN ?_ _) | (with_reducible refine Kd.C_drew ?_)))
           (case side2 => exact (Kd.V_reads' HO201.out).2.1)
           rintro e w53 ⟨rfl, hb⟩
           refine ⟨_, rfl, ?_⟩
           have n0_ := Aside0.mk (Kd.V_below (by (with_reducible repeat (first | apply Kd.V_alloc | apply Kd.V_drewN | apply Kd.V_drew)); exact HO201.out) hb)
           have n1_ := Aside0.mk (Kd.V_below (by (with_reducible repeat (first | apply Kd.V_alloc | apply Kd.V_drewN | apply Kd.V_drew)); exact HO210.out) hb)
           have n2_ := Aside0.mk (blk_below (g := gb207) (o := .cells #[.string t202, .int .i64 t203, .int .i64 t204, .int .i64 t205] 27 (0, 0)) (by (with_reducible repeat (first | refine blk_drewN ?_ _ | refine blk_drew ?_ | refine blk_alloc ?_ _)); exact BK207.out) hb)
           have n3_ := Aside0.mk (blk_below (g := gb214) (o := .cells #[.string ((rd_T27 l0 t212).f0), .int .i64 ((rd_T27 l0 t212).f1), .int .i64 ((rd_T27 l0 t212).f2), .int .i64 ((rd_T27 l0 t212).f3)] 27 (0, 0)) (by (with_reducible repeat (first | refine blk_drewN ?_ _ | refine blk_drew ?_ | refine blk_alloc ?_ _)); exact BK214.out) hb)
           have n4_ := Aside0.mk (below_step (by repeat (first | (with_reducible first | exact HB.out | apply below_alloc | apply pw_below_drewN | apply below_drew1 | refine below_set ?_ GE207.out | refine below_set ?_ GE214.out) | exact HB.out)) hb)
           clear HO201
           clear HO210
           clear BK207
           clear BK214
           clear HB
           have HO201 := n0_
           have HO210 := n1_
           have BK207 := n2_
           have BK214 := n3_
           have HB := n4_
           clear n0_ n1_ n2_ n3_ n4_
           (try clear hb)
           (try clear hb2)
           (try clear hk)
           (try clear hi)
           refine hK.out _ _ trivial (fun hHeld => ?_)
           clear hK K
           refine norm_ (a' := ?_) ?_ ?_
           rotate_left
           ·show Act.put _ (some 72) _ = _
            simp only [Act.put, List.setIfInBounds_toArray, List.set_cons_zero, List.set_cons_succ, i64_w, i32_w]
            rfl
           refine pA_ 2 73 x11tr23_3 HT_.out ?_
           refine pA_ 3 74 x11tr23_4 HT_.out ?_
           refine pA_ 4 75 x11tr23_5 HT_.out ?_
           refine pA_ 5 76 x11tr23_6 HT_.out ?_
           refine pA_ 6 77 x11tr23_7 HT_.out ?_
           refine pA_ 7 78 x11tr23_8 HT_.out ?_
           refine pA_ 8 79 x11tr23_9 HT_.out ?_
           refine pA_ 9 80 x11tr23_10 HT_.out ?_
           refine pA_ 10 81 x11tr23_11 HT_.out ?_
           refine pA_ 11 82 x11tr23_12 HT_.out ?_
           refine pA_ 12 83 x11tr23_13 HT_.out ?_
           refine pA_ 13 84 x11tr23_14 HT_.out ?_
           refine pU_ 14 85 x11tr23_15 HT_.out ?_
           refine pU_ 15 86 x11tr23_16 HT_.out ?_
           refine pU_ 16 87 x11tr23_17 HT_.out ?_
           refine pU_ 17 88 x11tr23_18 HT_.out ?_
           refine pU_ 18 89 x11tr23_19 HT_.out ?_
           refine pU_ 19 90 x11tr23_20 HT_.out ?_
           refine pU_ 20 91 x11tr23_21 HT_.out ?_
           refine pU_ 21 92 x11tr23_22 HT_.out ?_
           refine pA_ 22 93 x11tr23_23 HT_.out ?_
           refine done_ (done_of HT_.out (by kernel_rfl)) ?_
           try go_wp2
           go_ret
           exact ⟨by first | rfl | (simp [errW_none, errW_some] <;> rfl) | (simp [*, errW_none, errW_some] <;> rfl), by repeat (first | (with_reducible first | exact HB.out | apply below_alloc | apply pw_below_drewN | apply below_drew1 | refine below_set ?_ GE207.out | refine below_set ?_ GE214.out) | exact HB.out)⟩
          ·rw [if_neg c49] at H
           have c49b0 : decide ((t199.length : Int) ≤ t215) = false := decide_eq_false c49
           clear c49
           by_cases c54 : 0 ≤ t215
           ·rw [if_pos c54] at H
            have c54b0 : decide (0 ≤ t215) = true := decide_eq_true c54
            clear c54
            by_cases c55 : t215 < (t199.length : Int)
            ·rw [if_pos c55] at H
             have c55b0 : decide (t215 < (t199.length : Int)) = true := decide_eq_true c55
             clear c55
             by_cases c56 : ((rd_T27 t199 t215).f1) = ((rd_T27 l0 t212).f1)
             ·rw [if_pos c56] at H
              have c56b0 : (((rd_T27 t199 t215).f1) == ((rd_T27 l0 t212).f1)) = true := beq_iff_eq.mpr c56
              have c56b1 : (((rd_T27 t199 t215).f1) != ((rd_T27 l0 t212).f1)) = false := bne_eq_false_iff_eq.mpr c56
              clear c56
              have H' := Aside0.mk H
              clear H
              obtain ⟨Ao57, co57, eo57⟩ := Kd.V_slice HO201.out
              subst eo57
              try go_wp2_with (first | ((with_reducible refine gate_callee (f := 15) rfl ?_); refine goesL_ (some 70) rfl rfl Try.func15 (by kernel_rfl) rfl #[.slice Ao57 t199.length co57, .string a4] rfl (by (try simp only [List.map_toArray, List.map_cons, List.map_nil]); first | done | rfl | (simp only [List.length_drop, List.length_take]; rfl)) ?_; (with_reducible refine (mounts_Of.calls kj6 _ _ t199 a4 t215 _ ?side1 ?side2 A41.out).mono ?_); (case side1 => refine (Kd.V_reads' (e := 27) (base := w.heap.size) (ok := fun k_ => (k_ ≠ gb207 ∧ k_ ≠ gb214)) (n := t199.length) (c := co57) ?_).2.2; exact (by (with_reducible repeat (first | apply Kd.V_alloc | apply Kd.V_drewN | apply Kd.V_drew)); exact (Kd.V_mono (Kd.V_far (p := ⟨gb214, 3, none⟩) (Kd.V_far (p := ⟨gb214, 2, none⟩) (Kd.V_far (p := ⟨gb214, 1, none⟩) (Kd.V_far (p := ⟨gb214, 0, none⟩) (Kd.V_mono HO201.out (fun k_ hk => (⟨hk, hk.2⟩ : _ ∧ k_ ≠ gb214))) (fun _ hk => hk.2) (.string ((rd_T27 l0 t212).f0))) (fun _ hk => hk.2) (.int .i64 ((rd_T27 l0 t212).f1))) (fun _ hk => hk.2) (.int .i64 ((rd_T27 l0 t212).f2))) (fun _ hk => hk.2) (.int .i64 ((rd_T27 l0 t212).f3))) (fun _ h_ => h_.1)))); (case side2 => exact (Kd.V_reads' HO201.out).2.1); rintro e w58 ⟨rfl, hb⟩; refine ⟨_, rfl, ?_⟩; have n0_ := Aside0.mk (Kd.V_below (by (with_reducible repeat (first | apply Kd.V_alloc | apply Kd.V_drewN | apply Kd.V_drew)); exact (Kd.V_mono (Kd.V_far (p := ⟨gb214, 3, none⟩) (Kd.V_far (p := ⟨gb214, 2, none⟩) (Kd.V_far (p := ⟨gb214, 1, none⟩) (Kd.V_far (p := ⟨gb214, 0, none⟩) (Kd.V_mono HO201.out (fun k_ hk => (⟨hk, hk.2⟩ : _ ∧ k_ ≠ gb214))) (fun _ hk => hk.2) (.string ((rd_T27 l0 t212).f0))) (fun _ hk => hk.2) (.int .i64 ((rd_T27 l0 t212).f1))) (fun _ hk => hk.2) (.int .i64 ((rd_T27 l0 t212).f2))) (fun _ hk => hk.2) (.int .i64 ((rd_T27 l0 t212).f3))) (fun _ h_ => h_.1))) hb); have n1_ := Aside0.mk (Kd.V_below (by (with_reducible repeat (first | apply Kd.V_alloc | apply Kd.V_drewN | apply Kd.V_drew)); exact (Kd.V_mono (Kd.V_far (p := ⟨gb214, 3, none⟩) (Kd.V_far (p := ⟨gb214, 2, none⟩) (Kd.V_far (p := ⟨gb214, 1, none⟩) (Kd.V_far (p := ⟨gb214, 0, none⟩) (Kd.V_mono HO210.out (fun k_ hk => (⟨hk, hk.2⟩ : _ ∧ k_ ≠ gb214))) (fun _ hk => hk.2) (.string ((rd_T27 l0 t212).f0))) (fun _ hk => hk.2) (.int .i64 ((rd_T27 l0 t212).f1))) (fun _ hk => hk.2) (.int .i64 ((rd_T27 l0 t212).f2))) (fun _ hk => hk.2) (.int .i64 ((rd_T27 l0 t212).f3))) (fun _ h_ => h_.1))) hb); have n2_ := Aside0.mk (blk_below (g := gb207) (o := .cells #[.string t202, .int .i64 t203, .int .i64 t204, .int .i64 t205] 27 (0, 0)) (by (with_reducible repeat (first | refine blk_drewN ?_ _ | refine blk_drew ?_ | refine blk_alloc ?_ _)); refine blk_far ?_ NB207_214.out _; (with_reducible repeat (first | refine blk_drewN ?_ _ | refine blk_drew ?_ | refine blk_alloc ?_ _)); refine blk_far ?_ NB207_214.out _; (with_reducible repeat (first | refine blk_drewN ?_ _ | refine blk_drew ?_ | refine blk_alloc ?_ _)); refine blk_far ?_ NB207_214.out _; (with_reducible repeat (first | refine blk_drewN ?_ _ | refine blk_drew ?_ | refine blk_alloc ?_ _)); refine blk_far ?_ NB207_214.out _; (with_reducible repeat (first | refine blk_drewN ?_ _ | refine blk_drew ?_ | refine blk_alloc ?_ _)); exact BK207.out) hb); have n3_ := Aside0.mk (blk_below (g := gb214) (o := .cells #[.string ((rd_T27 l0 t212).f0), .int .i64 ((rd_T27 l0 t212).f1), .int .i64 ((rd_T27 l0 t212).f2), .int .i64 ((rd_T27 l0 t212).f3)] 27 (0, 0)) (by (with_reducible repeat (first | refine blk_drewN ?_ _ | refine blk_drew ?_ | refine blk_alloc ?_ _)); refine blk_put (cs := #[.string ((rd_T27 l0 t212).f0), .int .i64 ((rd_T27 l0 t212).f1), .int .i64 ((rd_T27 l0 t212).f2), .int .i64 0]) ?_ 3 _ rfl; (with_reducible repeat (first | refine blk_drewN ?_ _ | refine blk_drew ?_ | refine blk_alloc ?_ _)); refine blk_put (cs := #[.string ((rd_T27 l0 t212).f0), .int .i64 ((rd_T27 l0 t212).f1), .int .i64 0, .int .i64 0]) ?_ 2 _ rfl; (with_reducible repeat (first | refine blk_drewN ?_ _ | refine blk_drew ?_ | refine blk_alloc ?_ _)); refine blk_put (cs := #[.string ((rd_T27 l0 t212).f0), .int .i64 0, .int .i64 0, .int .i64 0]) ?_ 1 _ rfl; (with_reducible repeat (first | refine blk_drewN ?_ _ | refine blk_drew ?_ | refine blk_alloc ?_ _)); refine blk_put (cs := #[.string (⟨#[]⟩ : ByteArray), .int .i64 0, .int .i64 0, .int .i64 0]) ?_ 0 _ rfl; (with_reducible repeat (first | refine blk_drewN ?_ _ | refine blk_drew ?_ | refine blk_alloc ?_ _)); exact BK214.out) hb); have n4_ := Aside0.mk (below_step (by repeat (first | (with_reducible first | exact HB.out | apply below_alloc | apply pw_below_drewN | apply below_drew1 | refine below_set ?_ GE207.out | refine below_set ?_ GE214.out) | exact HB.out)) hb); clear HO201; clear HO210; clear BK207; clear BK214; clear HB; have HO201 := n0_; have HO210 := n1_; have BK207 := n2_; have BK214 := n3_; have HB := n4_; clear n0_ n1_ n2_ n3_ n4_; (try clear hb); (try clear hb2); (try clear hk); (try clear hi)))
              have n0_ := Aside0.mk (Kd.V_drew HO201.out)
              have n1_ := Aside0.mk (Kd.V_drew HO210.out)
              have n2_ := Aside0.mk (blk_drew BK207.out)
              have n3_ := Aside0.mk (blk_drew BK214.out)
              have n4_ := Aside0.mk (below_drew1 HB.out)
              clear HO201
              clear HO210
              clear BK207
              clear BK214
              clear HB
              have HO201 := n0_
              have HO210 := n1_
              have BK207 := n2_
              have BK214 := n3_
              have HB := n4_
              clear n0_ n1_ n2_ n3_ n4_
              have p217 : 0 ≤ (t215 : Int) := of_decide_eq_true (by first | (with_reducible assumption) | assumption)
              have q217 : t215 < (t199.length : Int) := of_decide_eq_true (by first | (with_reducible assumption) | assumption)
              obtain ⟨ad217, e217, hx217_0, hx217_1, hx217_2, hx217_3⟩ := at_T27 (Kd.V_reads' HO201.out).2.2 t215 p217 q217
              cases e217
              replace p217 := eq_true p217
              replace q217 := eq_true q217
              refine start_ (n := 23) (S := fun w' => w'.cell? ⟨gb214, 0, none⟩ = some (.string ((rd_T27 l0 t212).f0)) ∧ w'.cell? ⟨gb214, 1, none⟩ = some (.int .i64 ((rd_T27 l0 t212).f1)) ∧ w'.cell? ⟨gb214, 2, none⟩ = some (.int .i64 ((rd_T27 l0 t212).f2)) ∧ w'.cell? ⟨gb214, 3, none⟩ = some (.int .i64 ((rd_T27 l0 t212).f3)) ∧ w'.cell? (ad217.add ((t215).toNat * 4)) = some (.string ((rd_T27 t199 t215).f0)) ∧ w'.cell? ⟨(ad217.add ((t215).toNat * 4)).block, (ad217.add ((t215).toNat * 4)).off + 1, none⟩ = some (.int .i64 ((rd_T27 t199 t215).f1)) ∧ w'.cell? ⟨(ad217.add ((t215).toNat * 4)).block, (ad217.add ((t215).toNat * 4)).off + 2, none⟩ = some (.int .i64 ((rd_T27 t199 t215).f2)) ∧ w'.cell? ⟨(ad217.add ((t215).toNat * 4)).block, (ad217.add ((t215).toNat * 4)).off + 3, none⟩ = some (.int .i64 ((rd_T27 t199 t215).f3))) (ds := []) x11tr23_0 (by kernel_rfl) rfl rfl ⟨(blk_cell BK214.out 0).trans rfl, (blk_cell BK214.out 1).trans rfl, (blk_cell BK214.out 2).trans rfl, (blk_cell BK214.out 3).trans rfl, hx217_0, hx217_1, hx217_2, hx217_3⟩ (fun hHeld => ?_); refine with_tabW cantonlaw14_MountsKeep.tab9 cantonlaw14_MountsKeep.bits9 (fun HT_ HW_ => ?_)
              generalize w58.drew = w59 at HO201 HO210 BK207 BK214 HB hx217_0 hx217_1 hx217_2 hx217_3 hHeld ⊢
              refine pA_ 0 71 x11tr23_1 HT_.out ?_
              refine one_ (i := 1) (N := some 72) x11tr23_2 rfl rfl (one_of HT_.out (by kernel_rfl)) (by decide) (fun K hK => ?_)
              refine goes_ Try.func10 (by kernel_rfl) rfl #[.slice (some ad217) t199.length co57] (by rfl) rfl rfl (by (try simp only [List.map_toArray, List.map_cons, List.map_nil]); first | done | rfl | (simp only [List.length_drop, List.length_take]; rfl)) ?_
              with_reducible refine (cantonref14_Right.calls kj6 _ _ t199 true _ ?side1 ?side2 A42.out).mono ?_
              (case side1 => repeat (first | exact (Kd.V_reads' HO201.out).2.2 | (with_reducible refine Kd.C_alloc ?_ _) | (with_reducible refine Kd.C_drewN ?_ _) | (with_reducible refine Kd.C_drew ?_)))
              (case side2 => exact (Kd.V_reads' HO201.out).2.1)
              rintro e w60 ⟨rfl, hb⟩
              have HS4_ := (hb.cell (World.block_lt_of_cell? _ _ (hHeld.2.2.2.2.1))).trans (hHeld.2.2.2.2.1)
              have HS5_ := (hb.cell (World.block_lt_of_cell? _ _ (hHeld.2.2.2.2.2.1))).trans (hHeld.2.2.2.2.2.1)
              have HS6_ := (hb.cell (World.block_lt_of_cell? _ _ (hHeld.2.2.2.2.2.2.1))).trans (hHeld.2.2.2.2.2.2.1)
              have HS7_ := (hb.cell (World.block_lt_of_cell? _ _ (hHeld.2.2.2.2.2.2.2))).trans (hHeld.2.2.2.2.2.2.2)
              refine ⟨_, rfl, ?_⟩
              have n0_ := Aside0.mk (Kd.V_below (by (with_reducible repeat (first | apply Kd.V_alloc | apply Kd.V_drewN | apply Kd.V_drew)); exact HO201.out) hb)
              have n1_ := Aside0.mk (Kd.V_below (by (with_reducible repeat (first | apply Kd.V_alloc | apply Kd.V_drewN | apply Kd.V_drew)); exact HO210.out) hb)
              have n2_ := Aside0.mk (blk_below (g := gb207) (o := .cells #[.string t202, .int .i64 t203, .int .i64 t204, .int .i64 t205] 27 (0, 0)) (by (with_reducible repeat (first | refine blk_drewN ?_ _ | refine blk_drew ?_ | refine blk_alloc ?_ _)); exact BK207.out) hb)
              have n3_ := Aside0.mk (blk_below (g := gb214) (o := .cells #[.string ((rd_T27 l0 t212).f0), .int .i64 ((rd_T27 l0 t212).f1), .int .i64 ((rd_T27 l0 t212).f2), .int .i64 ((rd_T27 l0 t212).f3)] 27 (0, 0)) (by (with_reducible repeat (first | refine blk_drewN ?_ _ | refine blk_drew ?_ | refine blk_alloc ?_ _)); exact BK214.out) hb)
              have n4_ := Aside0.mk (below_step (by repeat (first | (with_reducible first | exact HB.out | apply below_alloc | apply pw_below_drewN | apply below_drew1 | refine below_set ?_ GE207.out | refine below_set ?_ GE214.out) | exact HB.out)) hb)
              clear HO201
              clear HO210
              clear BK207
              clear BK214
              clear HB
              have HO201 := n0_
              have HO210 := n1_
              have BK207 := n2_
              have BK214 := n3_
              have HB := n4_
              clear n0_ n1_ n2_ n3_ n4_
              (try clear hb)
              (try clear hb2)
              (try clear hk)
              (try clear hi)
              refine hK.out _ _ ⟨(blk_cell BK214.out 0).trans rfl, (blk_cell BK214.out 1).trans rfl, (blk_cell BK214.out 2).trans rfl, (blk_cell BK214.out 3).trans rfl, HS4_, HS5_, HS6_, HS7_⟩ (fun hHeld => ?_)
              clear hK K
              refine norm_ (a' := ?_) ?_ ?_
              rotate_left
              ·show Act.put _ (some 72) _ = _
               simp only [Act.put, List.setIfInBounds_toArray, List.set_cons_zero, List.set_cons_succ, i64_w, i32_w]
               rfl
              refine pA_ 2 73 x11tr23_3 HT_.out ?_
              refine pA_ 3 74 x11tr23_4 HT_.out ?_
              refine pA_ 4 75 x11tr23_5 HT_.out ?_
              refine pA_ 5 76 x11tr23_6 HT_.out ?_
              refine pA_ 6 77 x11tr23_7 HT_.out ?_
              refine pA_ 7 78 x11tr23_8 HT_.out ?_
              refine pA_ 8 79 x11tr23_9 HT_.out ?_
              refine pA_ 9 80 x11tr23_10 HT_.out ?_
              refine pA_ 10 81 x11tr23_11 HT_.out ?_
              refine pA_ 11 82 x11tr23_12 HT_.out ?_
              refine pA_ 12 83 x11tr23_13 HT_.out ?_
              refine pA_ 13 84 x11tr23_14 HT_.out ?_
              refine pA_ 14 85 x11tr23_15 HT_.out ?_
              refine pA_ 15 86 x11tr23_16 HT_.out ?_
              refine pA_ 16 87 x11tr23_17 HT_.out ?_
              refine pA_ 17 88 x11tr23_18 HT_.out ?_
              refine pA_ 19 90 x11tr23_m11111111111111111101000 HT_.out ?_
              refine take_ (i := 18) (N := some 89) (v := ?_) (a' := ?_) x11tr23_20 rfl rfl (take_ofW HT_.out HW_.out (by kernel_rfl)) (fun _ _ _ h => h) (Or.inl ⟨by rfl, ?_⟩) hHeld ?_ ?_
              rotate_left
              ·rintro w' ⟨s0, s1, s2, s3, s4, s5, s6, s7⟩
               go_simp
               with_reducible rfl
              rotate_left
              ·simp only [Act.put, List.setIfInBounds_toArray, List.set_cons_zero, List.set_cons_succ, i64_w, i32_w]
               rfl
              refine take_ (i := 20) (N := some 91) (v := ?_) (a' := ?_) x11tr23_21 rfl rfl (take_ofW HT_.out HW_.out (by kernel_rfl)) (fun _ _ _ h => h) (Or.inl ⟨by rfl, ?_⟩) hHeld ?_ ?_
              rotate_left
              ·rintro w' ⟨s0, s1, s2, s3, s4, s5, s6, s7⟩
               go_simp
               with_reducible rfl
              rotate_left
              ·simp only [Act.put, List.setIfInBounds_toArray, List.set_cons_zero, List.set_cons_succ, i64_w, i32_w]
               rfl
              refine pA_ 21 92 x11tr23_22 HT_.out ?_
              refine pA_ 22 93 x11tr23_23 HT_.out ?_
              refine done_ (done_of HT_.out (by kernel_rfl)) ?_
              try go_wp2
              go_meet
              case rel => exact ⟨_, H', ⟨by have := HJ6.out; first | omega | exact Nat.le_refl _⟩, ⟨by (with_reducible repeat (first | apply Kd.V_alloc | apply Kd.V_drewN | apply Kd.V_drew)); exact HO210.out⟩, ⟨by (with_reducible repeat (first | refine blk_drewN ?_ _ | refine blk_drew ?_ | refine blk_alloc ?_ _)); exact BK207.out⟩, ⟨by (with_reducible repeat (first | refine blk_drewN ?_ _ | refine blk_drew ?_ | refine blk_alloc ?_ _)); exact BK214.out⟩, ⟨by repeat (first | (with_reducible first | exact HB.out | apply below_alloc | apply pw_below_drewN | apply below_drew1 | refine below_set ?_ GE207.out | refine below_set ?_ GE214.out) | exact HB.out)⟩⟩
             ·rw [if_neg c56] at H
              have c56b0 : (((rd_T27 t199 t215).f1) == ((rd_T27 l0 t212).f1)) = false := beq_eq_false_iff_ne.mpr c56
              have c56b1 : (((rd_T27 t199 t215).f1) != ((rd_T27 l0 t212).f1)) = true := bne_iff_ne.mpr c56
              obtain rfl := Option.some.inj H
              obtain ⟨Ao61, co61, eo61⟩ := Kd.V_slice HO201.out
              subst eo61
              try go_wp2_with (first | ((with_reducible refine gate_callee (f := 15) rfl ?_); refine goesL_ (some 70) rfl rfl Try.func15 (by kernel_rfl) rfl #[.slice Ao61 t199.length co61, .string a4] rfl (by (try simp only [List.map_toArray, List.map_cons, List.map_nil]); first | done | rfl | (simp only [List.length_drop, List.length_take]; rfl)) ?_; (with_reducible refine (mounts_Of.calls kj6 _ _ t199 a4 t215 _ ?side1 ?side2 A41.out).mono ?_); (case side1 => refine (Kd.V_reads' (e := 27) (base := w.heap.size) (ok := fun k_ => (k_ ≠ gb207 ∧ k_ ≠ gb214)) (n := t199.length) (c := co61) ?_).2.2; exact (by (with_reducible repeat (first | apply Kd.V_alloc | apply Kd.V_drewN | apply Kd.V_drew)); exact (Kd.V_mono (Kd.V_far (p := ⟨gb214, 3, none⟩) (Kd.V_far (p := ⟨gb214, 2, none⟩) (Kd.V_far (p := ⟨gb214, 1, none⟩) (Kd.V_far (p := ⟨gb214, 0, none⟩) (Kd.V_mono HO201.out (fun k_ hk => (⟨hk, hk.2⟩ : _ ∧ k_ ≠ gb214))) (fun _ hk => hk.2) (.string ((rd_T27 l0 t212).f0))) (fun _ hk => hk.2) (.int .i64 ((rd_T27 l0 t212).f1))) (fun _ hk => hk.2) (.int .i64 ((rd_T27 l0 t212).f2))) (fun _ hk => hk.2) (.int .i64 ((rd_T27 l0 t212).f3))) (fun _ h_ => h_.1)))); (case side2 => exact (Kd.V_reads' HO201.out).2.1); rintro e w62 ⟨rfl, hb⟩; refine ⟨_, rfl, ?_⟩; have n0_ := Aside0.mk (Kd.V_below (by (with_reducible repeat (first | apply Kd.V_alloc | apply Kd.V_drewN | apply Kd.V_drew)); exact (Kd.V_mono (Kd.V_far (p := ⟨gb214, 3, none⟩) (Kd.V_far (p := ⟨gb214, 2, none⟩) (Kd.V_far (p := ⟨gb214, 1, none⟩) (Kd.V_far (p := ⟨gb214, 0, none⟩) (Kd.V_mono HO201.out (fun k_ hk => (⟨hk, hk.2⟩ : _ ∧ k_ ≠ gb214))) (fun _ hk => hk.2) (.string ((rd_T27 l0 t212).f0))) (fun _ hk => hk.2) (.int .i64 ((rd_T27 l0 t212).f1))) (fun _ hk => hk.2) (.int .i64 ((rd_T27 l0 t212).f2))) (fun _ hk => hk.2) (.int .i64 ((rd_T27 l0 t212).f3))) (fun _ h_ => h_.1))) hb); have n1_ := Aside0.mk (Kd.V_below (by (with_reducible repeat (first | apply Kd.V_alloc | apply Kd.V_drewN | apply Kd.V_drew)); exact (Kd.V_mono (Kd.V_far (p := ⟨gb214, 3, none⟩) (Kd.V_far (p := ⟨gb214, 2, none⟩) (Kd.V_far (p := ⟨gb214, 1, none⟩) (Kd.V_far (p := ⟨gb214, 0, none⟩) (Kd.V_mono HO210.out (fun k_ hk => (⟨hk, hk.2⟩ : _ ∧ k_ ≠ gb214))) (fun _ hk => hk.2) (.string ((rd_T27 l0 t212).f0))) (fun _ hk => hk.2) (.int .i64 ((rd_T27 l0 t212).f1))) (fun _ hk => hk.2) (.int .i64 ((rd_T27 l0 t212).f2))) (fun _ hk => hk.2) (.int .i64 ((rd_T27 l0 t212).f3))) (fun _ h_ => h_.1))) hb); have n2_ := Aside0.mk (blk_below (g := gb207) (o := .cells #[.string t202, .int .i64 t203, .int .i64 t204, .int .i64 t205] 27 (0, 0)) (by (with_reducible repeat (first | refine blk_drewN ?_ _ | refine blk_drew ?_ | refine blk_alloc ?_ _)); refine blk_far ?_ NB207_214.out _; (with_reducible repeat (first | refine blk_drewN ?_ _ | refine blk_drew ?_ | refine blk_alloc ?_ _)); refine blk_far ?_ NB207_214.out _; (with_reducible repeat (first | refine blk_drewN ?_ _ | refine blk_drew ?_ | refine blk_alloc ?_ _)); refine blk_far ?_ NB207_214.out _; (with_reducible repeat (first | refine blk_drewN ?_ _ | refine blk_drew ?_ | refine blk_alloc ?_ _)); refine blk_far ?_ NB207_214.out _; (with_reducible repeat (first | refine blk_drewN ?_ _ | refine blk_drew ?_ | refine blk_alloc ?_ _)); exact BK207.out) hb); have n3_ := Aside0.mk (blk_below (g := gb214) (o := .cells #[.string ((rd_T27 l0 t212).f0), .int .i64 ((rd_T27 l0 t212).f1), .int .i64 ((rd_T27 l0 t212).f2), .int .i64 ((rd_T27 l0 t212).f3)] 27 (0, 0)) (by (with_reducible repeat (first | refine blk_drewN ?_ _ | refine blk_drew ?_ | refine blk_alloc ?_ _)); refine blk_put (cs := #[.string ((rd_T27 l0 t212).f0), .int .i64 ((rd_T27 l0 t212).f1), .int .i64 ((rd_T27 l0 t212).f2), .int .i64 0]) ?_ 3 _ rfl; (with_reducible repeat (first | refine blk_drewN ?_ _ | refine blk_drew ?_ | refine blk_alloc ?_ _)); refine blk_put (cs := #[.string ((rd_T27 l0 t212).f0), .int .i64 ((rd_T27 l0 t212).f1), .int .i64 0, .int .i64 0]) ?_ 2 _ rfl; (with_reducible repeat (first | refine blk_drewN ?_ _ | refine blk_drew ?_ | refine blk_alloc ?_ _)); refine blk_put (cs := #[.string ((rd_T27 l0 t212).f0), .int .i64 0, .int .i64 0, .int .i64 0]) ?_ 1 _ rfl; (with_reducible repeat (first | refine blk_drewN ?_ _ | refine blk_drew ?_ | refine blk_alloc ?_ _)); refine blk_put (cs := #[.string (⟨#[]⟩ : ByteArray), .int .i64 0, .int .i64 0, .int .i64 0]) ?_ 0 _ rfl; (with_reducible repeat (first | refine blk_drewN ?_ _ | refine blk_drew ?_ | refine blk_alloc ?_ _)); exact BK214.out) hb); have n4_ := Aside0.mk (below_step (by repeat (first | (with_reducible first | exact HB.out | apply below_alloc | apply pw_below_drewN | apply below_drew1 | refine below_set ?_ GE207.out | refine below_set ?_ GE214.out) | exact HB.out)) hb); clear HO201; clear HO210; clear BK207; clear BK214; clear HB; have HO201 := n0_; have HO210 := n1_; have BK207 := n2_; have BK214 := n3_; have HB := n4_; clear n0_ n1_ n2_ n3_ n4_; (try clear hb); (try clear hb2); (try clear hk); (try clear hi)))
              have n0_ := Aside0.mk (Kd.V_drew HO201.out)
              have n1_ := Aside0.mk (Kd.V_drew HO210.out)
              have n2_ := Aside0.mk (blk_drew BK207.out)
              have n3_ := Aside0.mk (blk_drew BK214.out)
              have n4_ := Aside0.mk (below_drew1 HB.out)
              clear HO201
              clear HO210
              clear BK207
              clear BK214
              clear HB
              have HO201 := n0_
              have HO210 := n1_
              have BK207 := n2_
              have BK214 := n3_
              have HB := n4_
              clear n0_ n1_ n2_ n3_ n4_
              have p217 : 0 ≤ (t215 : Int) := of_decide_eq_true (by first | (with_reducible assumption) | assumption)
              have q217 : t215 < (t199.length : Int) := of_decide_eq_true (by first | (with_reducible assumption) | assumption)
              obtain ⟨ad217, e217, hx217_0, hx217_1, hx217_2, hx217_3⟩ := at_T27 (Kd.V_reads' HO201.out).2.2 t215 p217 q217
              cases e217
              replace p217 := eq_true p217
              replace q217 := eq_true q217
              refine start_ (n := 23) (S := fun w' => w'.cell? ⟨gb214, 0, none⟩ = some (.string ((rd_T27 l0 t212).f0)) ∧ w'.cell? ⟨gb214, 1, none⟩ = some (.int .i64 ((rd_T27 l0 t212).f1)) ∧ w'.cell? ⟨gb214, 2, none⟩ = some (.int .i64 ((rd_T27 l0 t212).f2)) ∧ w'.cell? ⟨gb214, 3, none⟩ = some (.int .i64 ((rd_T27 l0 t212).f3)) ∧ w'.cell? (ad217.add ((t215).toNat * 4)) = some (.string ((rd_T27 t199 t215).f0)) ∧ w'.cell? ⟨(ad217.add ((t215).toNat * 4)).block, (ad217.add ((t215).toNat * 4)).off + 1, none⟩ = some (.int .i64 ((rd_T27 t199 t215).f1)) ∧ w'.cell? ⟨(ad217.add ((t215).toNat * 4)).block, (ad217.add ((t215).toNat * 4)).off + 2, none⟩ = some (.int .i64 ((rd_T27 t199 t215).f2)) ∧ w'.cell? ⟨(ad217.add ((t215).toNat * 4)).block, (ad217.add ((t215).toNat * 4)).off + 3, none⟩ = some (.int .i64 ((rd_T27 t199 t215).f3))) (ds := []) x11tr23_0 (by kernel_rfl) rfl rfl ⟨(blk_cell BK214.out 0).trans rfl, (blk_cell BK214.out 1).trans rfl, (blk_cell BK214.out 2).trans rfl, (blk_cell BK214.out 3).trans rfl, hx217_0, hx217_1, hx217_2, hx217_3⟩ (fun hHeld => ?_); refine with_tabW cantonlaw14_MountsKeep.tab9 cantonlaw14_MountsKeep.bits9 (fun HT_ HW_ => ?_)
              generalize w62.drew = w63 at HO201 HO210 BK207 BK214 HB hx217_0 hx217_1 hx217_2 hx217_3 hHeld ⊢
              refine pA_ 0 71 x11tr23_1 HT_.out ?_
              refine one_ (i := 1) (N := some 72) x11tr23_2 rfl rfl (one_of HT_.out (by kernel_rfl)) (by decide) (fun K hK => ?_)
              refine goes_ Try.func10 (by kernel_rfl) rfl #[.slice (some ad217) t199.length co61] (by rfl) rfl rfl (by (try simp only [List.map_toArray, List.map_cons, List.map_nil]); first | done | rfl | (simp only [List.length_drop, List.length_take]; rfl)) ?_
              with_reducible refine (cantonref14_Right.calls kj6 _ _ t199 true _ ?side1 ?side2 A42.out).mono ?_
              (case side1 => repeat (first | exact (Kd.V_reads' HO201.out).2.2 | (with_reducible refine Kd.C_alloc ?_ _) | (with_reducible refine Kd.C_drewN ?_ _) | (with_reducible refine Kd.C_drew ?_)))
              (case side2 => exact (Kd.V_reads' HO201.out).2.1)
              rintro e w64 ⟨rfl, hb⟩
              have HS4_ := (hb.cell (World.block_lt_of_cell? _ _ (hHeld.2.2.2.2.1))).trans (hHeld.2.2.2.2.1)
              have HS5_ := (hb.cell (World.block_lt_of_cell? _ _ (hHeld.2.2.2.2.2.1))).trans (hHeld.2.2.2.2.2.1)
              have HS6_ := (hb.cell (World.block_lt_of_cell? _ _ (hHeld.2.2.2.2.2.2.1))).trans (hHeld.2.2.2.2.2.2.1)
              have HS7_ := (hb.cell (World.block_lt_of_cell? _ _ (hHeld.2.2.2.2.2.2.2))).trans (hHeld.2.2.2.2.2.2.2)
              refine ⟨_, rfl, ?_⟩
              have n0_ := Aside0.mk (Kd.V_below (by (with_reducible repeat (first | apply Kd.V_alloc | apply Kd.V_drewN | apply Kd.V_drew)); exact HO201.out) hb)
              have n1_ := Aside0.mk (Kd.V_below (by (with_reducible repeat (first | apply Kd.V_alloc | apply Kd.V_drewN | apply Kd.V_drew)); exact HO210.out) hb)
              have n2_ := Aside0.mk (blk_below (g := gb207) (o := .cells #[.string t202, .int .i64 t203, .int .i64 t204, .int .i64 t205] 27 (0, 0)) (by (with_reducible repeat (first | refine blk_drewN ?_ _ | refine blk_drew ?_ | refine blk_alloc ?_ _)); exact BK207.out) hb)
              have n3_ := Aside0.mk (blk_below (g := gb214) (o := .cells #[.string ((rd_T27 l0 t212).f0), .int .i64 ((rd_T27 l0 t212).f1), .int .i64 ((rd_T27 l0 t212).f2), .int .i64 ((rd_T27 l0 t212).f3)] 27 (0, 0)) (by (with_reducible repeat (first | refine blk_drewN ?_ _ | refine blk_drew ?_ | refine blk_alloc ?_ _)); exact BK214.out) hb)
              have n4_ := Aside0.mk (below_step (by repeat (first | (with_reducible first | exact HB.out | apply below_alloc | apply pw_below_drewN | apply below_drew1 | refine below_set ?_ GE207.out | refine below_set ?_ GE214.out) | exact HB.out)) hb)
              clear HO201
              clear HO210
              clear BK207
              clear BK214
              clear HB
              have HO201 := n0_
              have HO210 := n1_
              have BK207 := n2_
              have BK214 := n3_
              have HB := n4_
              clear n0_ n1_ n2_ n3_ n4_
              (try clear hb)
              (try clear hb2)
              (try clear hk)
              (try clear hi)
              refine hK.out _ _ ⟨(blk_cell BK214.out 0).trans rfl, (blk_cell BK214.out 1).trans rfl, (blk_cell BK214.out 2).trans rfl, (blk_cell BK214.out 3).trans rfl, HS4_, HS5_, HS6_, HS7_⟩ (fun hHeld => ?_)
              clear hK K
              refine norm_ (a' := ?_) ?_ ?_
              rotate_left
              ·show Act.put _ (some 72) _ = _
               simp only [Act.put, List.setIfInBounds_toArray, List.set_cons_zero, List.set_cons_succ, i64_w, i32_w]
               rfl
              refine pA_ 2 73 x11tr23_3 HT_.out ?_
              refine pA_ 3 74 x11tr23_4 HT_.out ?_
              refine pA_ 4 75 x11tr23_5 HT_.out ?_
              refine pA_ 5 76 x11tr23_6 HT_.out ?_
              refine pA_ 6 77 x11tr23_7 HT_.out ?_
              refine pA_ 7 78 x11tr23_8 HT_.out ?_
              refine pA_ 8 79 x11tr23_9 HT_.out ?_
              refine pA_ 9 80 x11tr23_10 HT_.out ?_
              refine pA_ 10 81 x11tr23_11 HT_.out ?_
              refine pA_ 11 82 x11tr23_12 HT_.out ?_
              refine pA_ 12 83 x11tr23_13 HT_.out ?_
              refine pA_ 13 84 x11tr23_14 HT_.out ?_
              refine pA_ 14 85 x11tr23_15 HT_.out ?_
              refine pA_ 15 86 x11tr23_16 HT_.out ?_
              refine pA_ 16 87 x11tr23_17 HT_.out ?_
              refine pA_ 17 88 x11tr23_18 HT_.out ?_
              refine pA_ 19 90 x11tr23_m11111111111111111101000 HT_.out ?_
              refine take_ (i := 18) (N := some 89) (v := ?_) (a' := ?_) x11tr23_20 rfl rfl (take_ofW HT_.out HW_.out (by kernel_rfl)) (fun _ _ _ h => h) (Or.inl ⟨by rfl, ?_⟩) hHeld ?_ ?_
              rotate_left
              ·rintro w' ⟨s0, s1, s2, s3, s4, s5, s6, s7⟩
               go_simp
               with_reducible rfl
              rotate_left
              ·simp only [Act.put, List.setIfInBounds_toArray, List.set_cons_zero, List.set_cons_succ, i64_w, i32_w]
               rfl
              refine take_ (i := 20) (N := some 91) (v := ?_) (a' := ?_) x11tr23_21 rfl rfl (take_ofW HT_.out HW_.out (by kernel_rfl)) (fun _ _ _ h => h) (Or.inl ⟨by rfl, ?_⟩) hHeld ?_ ?_
              rotate_left
              ·rintro w' ⟨s0, s1, s2, s3, s4, s5, s6, s7⟩
               go_simp
               with_reducible rfl
              rotate_left
              ·simp only [Act.put, List.setIfInBounds_toArray, List.set_cons_zero, List.set_cons_succ, i64_w, i32_w]
               rfl
              refine pA_ 21 92 x11tr23_22 HT_.out ?_
              refine pA_ 22 93 x11tr23_23 HT_.out ?_
              refine done_ (done_of HT_.out (by kernel_rfl)) ?_
              try go_wp2
              go_ret
              exact ⟨by first | rfl | (simp [errW_none, errW_some] <;> rfl) | (simp [*, errW_none, errW_some] <;> rfl), by repeat (first | (with_reducible first | exact HB.out | apply below_alloc | apply pw_below_drewN | apply below_drew1 | refine below_set ?_ GE207.out | refine below_set ?_ GE214.out) | exact HB.out)⟩
            ·rw [if_neg c55] at H
             exact absurd H (by simp)
           ·rw [if_neg c54] at H
            exact absurd H (by simp)
        ·replace c43 := Bool.eq_false_iff.mpr c43
         subst c43
         have H1 : (some false) = some r := by rw [if_neg (show ¬ (false = true) by decide)] at H; exact H
         clear H
         have H := H1
         clear H1
         obtain rfl := Option.some.inj H
         obtain ⟨Ao65, co65, eo65⟩ := Kd.V_slice HO201.out
         subst eo65
         try go_wp2_with (first | ((with_reducible refine gate_callee (f := 15) rfl ?_); refine goesL_ (some 70) rfl rfl Try.func15 (by kernel_rfl) rfl #[.slice Ao65 t199.length co65, .string a4] rfl (by (try simp only [List.map_toArray, List.map_cons, List.map_nil]); first | done | rfl | (simp only [List.length_drop, List.length_take]; rfl)) ?_; (with_reducible refine (mounts_Of.calls kj6 _ _ t199 a4 t215 _ ?side1 ?side2 A41.out).mono ?_); (case side1 => refine (Kd.V_reads' (e := 27) (base := w.heap.size) (ok := fun k_ => (k_ ≠ gb207 ∧ k_ ≠ gb214)) (n := t199.length) (c := co65) ?_).2.2; exact (by (with_reducible repeat (first | apply Kd.V_alloc | apply Kd.V_drewN | apply Kd.V_drew)); exact (Kd.V_mono (Kd.V_far (p := ⟨gb214, 3, none⟩) (Kd.V_far (p := ⟨gb214, 2, none⟩) (Kd.V_far (p := ⟨gb214, 1, none⟩) (Kd.V_far (p := ⟨gb214, 0, none⟩) (Kd.V_mono HO201.out (fun k_ hk => (⟨hk, hk.2⟩ : _ ∧ k_ ≠ gb214))) (fun _ hk => hk.2) (.string ((rd_T27 l0 t212).f0))) (fun _ hk => hk.2) (.int .i64 ((rd_T27 l0 t212).f1))) (fun _ hk => hk.2) (.int .i64 ((rd_T27 l0 t212).f2))) (fun _ hk => hk.2) (.int .i64 ((rd_T27 l0 t212).f3))) (fun _ h_ => h_.1)))); (case side2 => exact (Kd.V_reads' HO201.out).2.1); rintro e w66 ⟨rfl, hb⟩; refine ⟨_, rfl, ?_⟩; have n0_ := Aside0.mk (Kd.V_below (by (with_reducible repeat (first | apply Kd.V_alloc | apply Kd.V_drewN | apply Kd.V_drew)); exact (Kd.V_mono (Kd.V_far (p := ⟨gb214, 3, none⟩) (Kd.V_far (p := ⟨gb214, 2, none⟩) (Kd.V_far (p := ⟨gb214, 1, none⟩) (Kd.V_far (p := ⟨gb214, 0, none⟩) (Kd.V_mono HO201.out (fun k_ hk => (⟨hk, hk.2⟩ : _ ∧ k_ ≠ gb214))) (fun _ hk => hk.2) (.string ((rd_T27 l0 t212).f0))) (fun _ hk => hk.2) (.int .i64 ((rd_T27 l0 t212).f1))) (fun _ hk => hk.2) (.int .i64 ((rd_T27 l0 t212).f2))) (fun _ hk => hk.2) (.int .i64 ((rd_T27 l0 t212).f3))) (fun _ h_ => h_.1))) hb); have n1_ := Aside0.mk (Kd.V_below (by (with_reducible repeat (first | apply Kd.V_alloc | apply Kd.V_drewN | apply Kd.V_drew)); exact (Kd.V_mono (Kd.V_far (p := ⟨gb214, 3, none⟩) (Kd.V_far (p := ⟨gb214, 2, none⟩) (Kd.V_far (p := ⟨gb214, 1, none⟩) (Kd.V_far (p := ⟨gb214, 0, none⟩) (Kd.V_mono HO210.out (fun k_ hk => (⟨hk, hk.2⟩ : _ ∧ k_ ≠ gb214))) (fun _ hk => hk.2) (.string ((rd_T27 l0 t212).f0))) (fun _ hk => hk.2) (.int .i64 ((rd_T27 l0 t212).f1))) (fun _ hk => hk.2) (.int .i64 ((rd_T27 l0 t212).f2))) (fun _ hk => hk.2) (.int .i64 ((rd_T27 l0 t212).f3))) (fun _ h_ => h_.1))) hb); have n2_ := Aside0.mk (blk_below (g := gb207) (o := .cells #[.string t202, .int .i64 t203, .int .i64 t204, .int .i64 t205] 27 (0, 0)) (by (with_reducible repeat (first | refine blk_drewN ?_ _ | refine blk_drew ?_ | refine blk_alloc ?_ _)); refine blk_far ?_ NB207_214.out _; (with_reducible repeat (first | refine blk_drewN ?_ _ | refine blk_drew ?_ | refine blk_alloc ?_ _)); refine blk_far ?_ NB207_214.out _; (with_reducible repeat (first | refine blk_drewN ?_ _ | refine blk_drew ?_ | refine blk_alloc ?_ _)); refine blk_far ?_ NB207_214.out _; (with_reducible repeat (first | refine blk_drewN ?_ _ | refine blk_drew ?_ | refine blk_alloc ?_ _)); refine blk_far ?_ NB207_214.out _; (with_reducible repeat (first | refine blk_drewN ?_ _ | refine blk_drew ?_ | refine blk_alloc ?_ _)); exact BK207.out) hb); have n3_ := Aside0.mk (blk_below (g := gb214) (o := .cells #[.string ((rd_T27 l0 t212).f0), .int .i64 ((rd_T27 l0 t212).f1), .int .i64 ((rd_T27 l0 t212).f2), .int .i64 ((rd_T27 l0 t212).f3)] 27 (0, 0)) (by (with_reducible repeat (first | refine blk_drewN ?_ _ | refine blk_drew ?_ | refine blk_alloc ?_ _)); refine blk_put (cs := #[.string ((rd_T27 l0 t212).f0), .int .i64 ((rd_T27 l0 t212).f1), .int .i64 ((rd_T27 l0 t212).f2), .int .i64 0]) ?_ 3 _ rfl; (with_reducible repeat (first | refine blk_drewN ?_ _ | refine blk_drew ?_ | refine blk_alloc ?_ _)); refine blk_put (cs := #[.string ((rd_T27 l0 t212).f0), .int .i64 ((rd_T27 l0 t212).f1), .int .i64 0, .int .i64 0]) ?_ 2 _ rfl; (with_reducible repeat (first | refine blk_drewN ?_ _ | refine blk_drew ?_ | refine blk_alloc ?_ _)); refine blk_put (cs := #[.string ((rd_T27 l0 t212).f0), .int .i64 0, .int .i64 0, .int .i64 0]) ?_ 1 _ rfl; (with_reducible repeat (first | refine blk_drewN ?_ _ | refine blk_drew ?_ | refine blk_alloc ?_ _)); refine blk_put (cs := #[.string (⟨#[]⟩ : ByteArray), .int .i64 0, .int .i64 0, .int .i64 0]) ?_ 0 _ rfl; (with_reducible repeat (first | refine blk_drewN ?_ _ | refine blk_drew ?_ | refine blk_alloc ?_ _)); exact BK214.out) hb); have n4_ := Aside0.mk (below_step (by repeat (first | (with_reducible first | exact HB.out | apply below_alloc | apply pw_below_drewN | apply below_drew1 | refine below_set ?_ GE207.out | refine below_set ?_ GE214.out) | exact HB.out)) hb); clear HO201; clear HO210; clear BK207; clear BK214; clear HB; have HO201 := n0_; have HO210 := n1_; have BK207 := n2_; have BK214 := n3_; have HB := n4_; clear n0_ n1_ n2_ n3_ n4_; (try clear hb); (try clear hb2); (try clear hk); (try clear hi)))
         have n0_ := Aside0.mk (Kd.V_drew HO201.out)
         have n1_ := Aside0.mk (Kd.V_drew HO210.out)
         have n2_ := Aside0.mk (blk_drew BK207.out)
         have n3_ := Aside0.mk (blk_drew BK214.out)
         have n4_ := Aside0.mk (below_drew1 HB.out)
         clear HO201
         clear HO210
         clear BK207
         clear BK214
         clear HB
         have HO201 := n0_
         have HO210 := n1_
         have BK207 := n2_
         have BK214 := n3_
         have HB := n4_
         clear n0_ n1_ n2_ n3_ n4_
         refine start_ (n := 23) (S := fun w' => True) (ds := []) x11tr23_0 (by kernel_rfl) rfl rfl trivial (fun hHeld => ?_); refine with_tabW cantonlaw14_MountsKeep.tab9 cantonlaw14_MountsKeep.bits9 (fun HT_ HW_ => ?_)
         generalize w66.drew = w67 at HO201 HO210 BK207 BK214 HB hHeld ⊢
         refine pA_ 0 71 x11tr23_1 HT_.out ?_
         refine one_ (i := 1) (N := some 72) x11tr23_2 rfl rfl (one_of HT_.out (by kernel_rfl)) (by decide) (fun K hK => ?_)
         refine goes_ Try.func10 (by kernel_rfl) rfl #[.slice Ao65 t199.length co65] (by rfl) rfl rfl (by (try simp only [List.map_toArray, List.map_cons, List.map_nil]); first | done | rfl | (simp only [List.length_drop, List.length_take]; rfl)) ?_
         with_reducible refine (cantonref14_Right.calls kj6 _ _ t199 false _ ?side1 ?side2 A42.out).mono ?_
         (case side1 => repeat (first | exact (Kd.V_reads' HO201.out).2.2 | (with_reducible refine Kd.C_alloc ?_ _) | (with_reducible refine Kd.C_drewN ?_ _) | (with_reducible refine Kd.C_drew ?_)))
         (case side2 => exact (Kd.V_reads' HO201.out).2.1)
         rintro e w68 ⟨rfl, hb⟩
         refine ⟨_, rfl, ?_⟩
         have n0_ := Aside0.mk (Kd.V_below (by (with_reducible repeat (first | apply Kd.V_alloc | apply Kd.V_drewN | apply Kd.V_drew)); exact HO201.out) hb)
         have n1_ := Aside0.mk (Kd.V_below (by (with_reducible repeat (first | apply Kd.V_alloc | apply Kd.V_drewN | apply Kd.V_drew)); exact HO210.out) hb)
         have n2_ := Aside0.mk (blk_below (g := gb207) (o := .cells #[.string t202, .int .i64 t203, .int .i64 t204, .int .i64 t205] 27 (0, 0)) (by (with_reducible repeat (first | refine blk_drewN ?_ _ | refine blk_drew ?_ | refine blk_alloc ?_ _)); exact BK207.out) hb)
         have n3_ := Aside0.mk (blk_below (g := gb214) (o := .cells #[.string ((rd_T27 l0 t212).f0), .int .i64 ((rd_T27 l0 t212).f1), .int .i64 ((rd_T27 l0 t212).f2), .int .i64 ((rd_T27 l0 t212).f3)] 27 (0, 0)) (by (with_reducible repeat (first | refine blk_drewN ?_ _ | refine blk_drew ?_ | refine blk_alloc ?_ _)); exact BK214.out) hb)
         have n4_ := Aside0.mk (below_step (by repeat (first | (with_reducible first | exact HB.out | apply below_alloc | apply pw_below_drewN | apply below_drew1 | refine below_set ?_ GE207.out | refine below_set ?_ GE214.out) | exact HB.out)) hb)
         clear HO201
         clear HO210
         clear BK207
         clear BK214
         clear HB
         have HO201 := n0_
         have HO210 := n1_
         have BK207 := n2_
         have BK214 := n3_
         have HB := n4_
         clear n0_ n1_ n2_ n3_ n4_
         (try clear hb)
         (try clear hb2)
         (try clear hk)
         (try clear hi)
         refine hK.out _ _ trivial (fun hHeld => ?_)
         clear hK K
         refine norm_ (a' := ?_) ?_ ?_
         rotate_left
         ·show Act.put _ (some 72) _ = _
          simp only [Act.put, List.setIfInBounds_toArray, List.set_cons_zero, List.set_cons_succ, i64_w, i32_w]
          rfl
         refine pA_ 2 73 x11tr23_3 HT_.out ?_
         refine pA_ 3 74 x11tr23_4 HT_.out ?_
         refine pU_ 4 75 x11tr23_5 HT_.out ?_
         refine pU_ 5 76 x11tr23_6 HT_.out ?_
         refine pA_ 6 77 x11tr23_7 HT_.out ?_
         refine pA_ 7 78 x11tr23_8 HT_.out ?_
         refine pU_ 8 79 x11tr23_9 HT_.out ?_
         refine pU_ 9 80 x11tr23_10 HT_.out ?_
         refine pU_ 10 81 x11tr23_11 HT_.out ?_
         refine pU_ 11 82 x11tr23_12 HT_.out ?_
         refine pA_ 12 83 x11tr23_13 HT_.out ?_
         refine pA_ 13 84 x11tr23_14 HT_.out ?_
         refine pU_ 14 85 x11tr23_15 HT_.out ?_
         refine pU_ 15 86 x11tr23_16 HT_.out ?_
         refine pU_ 16 87 x11tr23_17 HT_.out ?_
         refine pU_ 17 88 x11tr23_18 HT_.out ?_
         refine pU_ 18 89 x11tr23_19 HT_.out ?_
         refine pU_ 19 90 x11tr23_20 HT_.out ?_
         refine pU_ 20 91 x11tr23_21 HT_.out ?_
         refine pU_ 21 92 x11tr23_22 HT_.out ?_
         refine pA_ 22 93 x11tr23_23 HT_.out ?_
         refine done_ (done_of HT_.out (by kernel_rfl)) ?_
         try go_wp2
         go_ret
         exact ⟨by first | rfl | (simp [errW_none, errW_some] <;> rfl) | (simp [*, errW_none, errW_some] <;> rfl), by repeat (first | (with_reducible first | exact HB.out | apply below_alloc | apply pw_below_drewN | apply below_drew1 | refine below_set ?_ GE207.out | refine below_set ?_ GE214.out) | exact HB.out)⟩
       ·rw [if_neg c40] at H
        have c40b0 : (t206 == 0) = false := beq_eq_false_iff_ne.mpr c40
        have c40b1 : (t206 != 0) = true := bne_iff_ne.mpr c40
        (first | rw [c40b0] | (simp only [i64_w, i32_w]; rw [c40b0]) | skip)
        have H' := Aside0.mk H
        clear H
        go_wp2
        go_meet
        case rel => exact ⟨_, H', ⟨by have := HJ6.out; first | omega | exact Nat.le_refl _⟩, ⟨by (with_reducible repeat (first | apply Kd.V_alloc | apply Kd.V_drewN | apply Kd.V_drew)); exact Kd.V_mono (Kd.V_far (p := ⟨gb214, 3, none⟩) (Kd.V_far (p := ⟨gb214, 2, none⟩) (Kd.V_far (p := ⟨gb214, 1, none⟩) (Kd.V_far (p := ⟨gb214, 0, none⟩) (Kd.V_mono HO210.out (fun k_ hk => (⟨hk, hk.2⟩ : _ ∧ k_ ≠ gb214))) (fun _ hk => hk.2) (.string ((rd_T27 l0 t212).f0))) (fun _ hk => hk.2) (.int .i64 ((rd_T27 l0 t212).f1))) (fun _ hk => hk.2) (.int .i64 ((rd_T27 l0 t212).f2))) (fun _ hk => hk.2) (.int .i64 ((rd_T27 l0 t212).f3))) (fun _ hk => ⟨hk.1.1, hk.1.2⟩)⟩, ⟨by (with_reducible repeat (first | refine blk_drewN ?_ _ | refine blk_drew ?_ | refine blk_alloc ?_ _)); refine blk_far ?_ NB207_214.out _; (with_reducible repeat (first | refine blk_drewN ?_ _ | refine blk_drew ?_ | refine blk_alloc ?_ _)); refine blk_far ?_ NB207_214.out _; (with_reducible repeat (first | refine blk_drewN ?_ _ | refine blk_drew ?_ | refine blk_alloc ?_ _)); refine blk_far ?_ NB207_214.out _; (with_reducible repeat (first | refine blk_drewN ?_ _ | refine blk_drew ?_ | refine blk_alloc ?_ _)); refine blk_far ?_ NB207_214.out _; (with_reducible repeat (first | refine blk_drewN ?_ _ | refine blk_drew ?_ | refine blk_alloc ?_ _)); exact BK207.out⟩, ⟨by (with_reducible repeat (first | refine blk_drewN ?_ _ | refine blk_drew ?_ | refine blk_alloc ?_ _)); refine blk_put (cs := #[.string ((rd_T27 l0 t212).f0), .int .i64 ((rd_T27 l0 t212).f1), .int .i64 ((rd_T27 l0 t212).f2), .int .i64 0]) ?_ 3 _ rfl; (with_reducible repeat (first | refine blk_drewN ?_ _ | refine blk_drew ?_ | refine blk_alloc ?_ _)); refine blk_put (cs := #[.string ((rd_T27 l0 t212).f0), .int .i64 ((rd_T27 l0 t212).f1), .int .i64 0, .int .i64 0]) ?_ 2 _ rfl; (with_reducible repeat (first | refine blk_drewN ?_ _ | refine blk_drew ?_ | refine blk_alloc ?_ _)); refine blk_put (cs := #[.string ((rd_T27 l0 t212).f0), .int .i64 0, .int .i64 0, .int .i64 0]) ?_ 1 _ rfl; (with_reducible repeat (first | refine blk_drewN ?_ _ | refine blk_drew ?_ | refine blk_alloc ?_ _)); refine blk_put (cs := #[.string (⟨#[]⟩ : ByteArray), .int .i64 0, .int .i64 0, .int .i64 0]) ?_ 0 _ rfl; (with_reducible repeat (first | refine blk_drewN ?_ _ | refine blk_drew ?_ | refine blk_alloc ?_ _)); exact BK214.out⟩, ⟨by repeat (first | (with_reducible first | exact HB.out | apply below_alloc | apply pw_below_drewN | apply below_drew1 | refine below_set ?_ GE207.out | refine below_set ?_ GE214.out) | exact HB.out)⟩⟩
      case rest =>
       clear HC30
       try clear c1
       try clear p2
       try clear q2
       try clear hx2
       try clear c4
       try clear c5
       try clear c10
       try clear c15
       try clear p21
       try clear q21
       try clear hx21
       try clear c40
       try clear c40b0
       try clear c40b1
       try clear c43
       try clear c54
       try clear c55
       try clear c56
       try clear c56b0
       try clear c56b1
       try clear hx217_0
       try clear hx217_1
       try clear hx217_2
       try clear hx217_3
       try clear p217
       try clear q217
       obtain ⟨kq, HA, HJ29, HO_15, BK207, BK214, HB⟩ := hcut
       cases kq with
       | zero => exact absurd HA.out (by simp [cantonlaw14_MountsKeep.j1])
       | succ kj29 =>
        have H := HA.out
        clear HA
        simp only [cantonlaw14_MountsKeep.j1] at H
        by_cases c69 : t211 = 0
        ·rw [if_pos c69] at H
         have c69b0 : (t211 == 0) = true := beq_iff_eq.mpr c69
         have c69b1 : (t211 != 0) = false := bne_eq_false_iff_eq.mpr c69
         clear c69
         replace H := Option.bind_eq_some_iff.mp H
         obtain ⟨t218, A700, H⟩ := H
         replace H : ((cantonref14_Right.f kj29 t208).bind fun t219 => (if t219 = true then (if t218 < 0 then (cantonlaw14_MountsKeep.j2 kj29 a1 a2 t195 t208 t218 true ((rd_T27 l0 t212).f0) ((rd_T27 l0 t212).f1) ((rd_T27 l0 t212).f2) ((rd_T27 l0 t212).f3)) else (cantonlaw14_MountsKeep.j2 kj29 a1 a2 t195 t208 t218 (decide (t218 ≥ (t208.length : Int))) ((rd_T27 l0 t212).f0) ((rd_T27 l0 t212).f1) ((rd_T27 l0 t212).f2) ((rd_T27 l0 t212).f3))) else (cantonlaw14_MountsKeep.j2 kj29 a1 a2 t195 t208 t218 true ((rd_T27 l0 t212).f0) ((rd_T27 l0 t212).f1) ((rd_T27 l0 t212).f2) ((rd_T27 l0 t212).f3)))) = some r := H
         have A70 := Aside0.mk A700
         clear A700
         have HC71 := Aside0.mk H
         clear H
         obtain ⟨Ao72, co72, eo72⟩ := Kd.V_slice HO_15.out
         subst eo72
         go_upto_region 13 with (first | ((with_reducible refine gate_callee (f := 15) rfl ?_); refine goesL_ (some 98) rfl rfl Try.func15 (by kernel_rfl) rfl #[.slice Ao72 t208.length co72, .string a4] rfl (by (try simp only [List.map_toArray, List.map_cons, List.map_nil]); first | done | rfl | (simp only [List.length_drop, List.length_take]; rfl)) ?_; (with_reducible refine (mounts_Of.calls kj29 _ _ t208 a4 t218 _ ?side1 ?side2 A70.out).mono ?_); (case side1 => repeat (first | exact (Kd.V_reads' HO_15.out).2.2 | (with_reducible refine Kd.C_alloc ?_ _) | (with_reducible refine Kd.C_drewN ?_ _) | (with_reducible refine Kd.C_drew ?_))); (case side2 => exact (Kd.V_reads' HO_15.out).2.1); rintro e w73 ⟨rfl, hb⟩; refine ⟨_, rfl, ?_⟩; have n0_ := Aside0.mk (Kd.V_below (by (with_reducible repeat (first | apply Kd.V_alloc | apply Kd.V_drewN | apply Kd.V_drew)); exact HO_15.out) hb); have n1_ := Aside0.mk (blk_below (g := gb207) (o := .cells #[.string t202, .int .i64 t203, .int .i64 t204, .int .i64 t205] 27 (0, 0)) (by (with_reducible repeat (first | refine blk_drewN ?_ _ | refine blk_drew ?_ | refine blk_alloc ?_ _)); exact BK207.out) hb); have n2_ := Aside0.mk (blk_below (g := gb214) (o := .cells #[.string ((rd_T27 l0 t212).f0), .int .i64 ((rd_T27 l0 t212).f1), .int .i64 ((rd_T27 l0 t212).f2), .int .i64 ((rd_T27 l0 t212).f3)] 27 (0, 0)) (by (with_reducible repeat (first | refine blk_drewN ?_ _ | refine blk_drew ?_ | refine blk_alloc ?_ _)); exact BK214.out) hb); have n3_ := Aside0.mk (below_step (by repeat (first | (with_reducible first | exact HB.out | apply below_alloc | apply pw_below_drewN | apply below_drew1 | refine below_set ?_ GE207.out | refine below_set ?_ GE214.out) | exact HB.out)) hb); clear HO_15; clear BK207; clear BK214; clear HB; have HO_15 := n0_; have BK207 := n1_; have BK214 := n2_; have HB := n3_; clear n0_ n1_ n2_ n3_; (try clear hb); (try clear hb2); (try clear hk); (try clear hi)))
         (try simp only [Act.put, List.setIfInBounds_toArray, List.set_cons_zero, List.set_cons_succ])
         go_cut [111] (fun v111 wc => ∃ (kq : Nat) (x111_70 : Bool), v111 = .bool x111_70 ∧ Aside0 (cantonlaw14_MountsKeep.j2 kq a1 a2 t195 t208 t218 x111_70 ((rd_T27 l0 t212).f0) ((rd_T27 l0 t212).f1) ((rd_T27 l0 t212).f2) ((rd_T27 l0 t212).f3) = some r) ∧ Aside0 (kq ≤ kj29) ∧ Aside0 (Kd.V k27 27 wc w.heap.size (fun k_ => k_ ≠ gb207 ∧ k_ ≠ gb214) (.slice Ao72 t208.length co72) t208) ∧ Aside0 (wc.heap[gb207]? = some (.cells #[.string t202, .int .i64 t203, .int .i64 t204, .int .i64 t205] 27 (0, 0))) ∧ Aside0 (wc.heap[gb214]? = some (.cells #[.string ((rd_T27 l0 t212).f0), .int .i64 ((rd_T27 l0 t212).f1), .int .i64 ((rd_T27 l0 t212).f2), .int .i64 ((rd_T27 l0 t212).f3)] 27 (0, 0))) ∧ Aside0 (Below w.heap.size w wc))
         case first =>
          have H := HC71.out
          clear HC71
          replace H := Option.bind_eq_some_iff.mp H
          obtain ⟨t219, A740, H⟩ := H
          replace H : (if t219 = true then (if t218 < 0 then (cantonlaw14_MountsKeep.j2 kj29 a1 a2 t195 t208 t218 true ((rd_T27 l0 t212).f0) ((rd_T27 l0 t212).f1) ((rd_T27 l0 t212).f2) ((rd_T27 l0 t212).f3)) else (cantonlaw14_MountsKeep.j2 kj29 a1 a2 t195 t208 t218 (decide (t218 ≥ (t208.length : Int))) ((rd_T27 l0 t212).f0) ((rd_T27 l0 t212).f1) ((rd_T27 l0 t212).f2) ((rd_T27 l0 t212).f3))) else (cantonlaw14_MountsKeep.j2 kj29 a1 a2 t195 t208 t218 true ((rd_T27 l0 t212).f0) ((rd_T27 l0 t212).f1) ((rd_T27 l0 t212).f2) ((rd_T27 l0 t212).f3))) = some r := H
          have A74 := Aside0.mk A740
          clear A740
          by_cases c75 : t219 = true
          ·subst c75
           have H1 : (if t218 < 0 then (cantonlaw14_MountsKeep.j2 kj29 a1 a2 t195 t208 t218 true ((rd_T27 l0 t212).f0) ((rd_T27 l0 t212).f1) ((rd_T27 l0 t212).f2) ((rd_T27 l0 t212).f3)) else (cantonlaw14_MountsKeep.j2 kj29 a1 a2 t195 t208 t218 (decide (t218 ≥ (t208.length : Int))) ((rd_T27 l0 t212).f0) ((rd_T27 l0 t212).f1) ((rd_T27 l0 t212).f2) ((rd_T27 l0 t212).f3))) = some r := by rw [if_pos rfl] at H; exact H
           clear H
           have H := H1
           clear H1
           by_cases c76 : t218 < 0
           ·rw [if_pos c76] at H
            have c76b0 : decide (t218 < 0) = true := decide_eq_true c76
            clear c76
            (first | rw [c76b0] | (simp only [i64_w, i32_w]; rw [c76b0]) | skip)
            have H' := Aside0.mk H
            clear H
            go_wp2_with (first | ((with_reducible refine gate_callee (f := 10) rfl ?_); refine goesL_ (some 100) rfl rfl Try.func10 (by kernel_rfl) rfl #[.slice Ao72 t208.length co72] rfl (by (try simp only [List.map_toArray, List.map_cons, List.map_nil]); first | done | rfl | (simp only [List.length_drop, List.length_take]; rfl)) ?_; (with_reducible refine (cantonref14_Right.calls kj29 _ _ t208 true _ ?side1 ?side2 A74.out).mono ?_); (case side1 => repeat (first | exact (Kd.V_reads' HO_15.out).2.2 | (with_reducible refine Kd.C_alloc ?_ _) | (with_reducible refine Kd.C_drewN ?_ _) | (with_reducible refine Kd.C_drew ?_))); (case side2 => exact (Kd.V_reads' HO_15.out).2.1); rintro e w77 ⟨rfl, hb⟩; refine ⟨_, rfl, ?_⟩; have n0_ := Aside0.mk (Kd.V_below (by (with_reducible repeat (first | apply Kd.V_alloc | apply Kd.V_drewN | apply Kd.V_drew)); exact HO_15.out) hb); have n1_ := Aside0.mk (blk_below (g := gb207) (o := .cells #[.string t202, .int .i64 t203, .int .i64 t204, .int .i64 t205] 27 (0, 0)) (by (with_reducible repeat (first | refine blk_drewN ?_ _ | refine blk_drew ?_ | refine blk_alloc ?_ _)); exact BK207.out) hb); have n2_ := Aside0.mk (blk_below (g := gb214) (o := .cells #[.string ((rd_T27 l0 t212).f0), .int .i64 ((rd_T27 l0 t212).f1), .int .i64 ((rd_T27 l0 t212).f2), .int .i64 ((rd_T27 l0 t212).f3)] 27 (0, 0)) (by (with_reducible repeat (first | refine blk_drewN ?_ _ | refine blk_drew ?_ | refine blk_alloc ?_ _)); exact BK214.out) hb); have n3_ := Aside0.mk (below_step (by repeat (first | (with_reducible first | exact HB.out | apply below_alloc | apply pw_below_drewN | apply below_drew1 | refine below_set ?_ GE207.out | refine below_set ?_ GE214.out) | exact HB.out)) hb); clear HO_15; clear BK207; clear BK214; clear HB; have HO_15 := n0_; have BK207 := n1_; have BK214 := n2_; have HB := n3_; clear n0_ n1_ n2_ n3_; (try clear hb); (try clear hb2); (try clear hk); (try clear hi)))
            go_meet
            case rel => exact ⟨_, (true), (by first | rfl | (simp; done) | (simp [*]; done)), H', ⟨by have := HJ6.out; have := HJ29.out; first | omega | exact Nat.le_refl _⟩, ⟨by (with_reducible repeat (first | apply Kd.V_alloc | apply Kd.V_drewN | apply Kd.V_drew)); exact HO_15.out⟩, ⟨by (with_reducible repeat (first | refine blk_drewN ?_ _ | refine blk_drew ?_ | refine blk_alloc ?_ _)); exact BK207.out⟩, ⟨by (with_reducible repeat (first | refine blk_drewN ?_ _ | refine blk_drew ?_ | refine blk_alloc ?_ _)); exact BK214.out⟩, ⟨by repeat (first | (with_reducible first | exact HB.out | apply below_alloc | apply pw_below_drewN | apply below_drew1 | refine below_set ?_ GE207.out | refine below_set ?_ GE214.out) | exact HB.out)⟩⟩
           ·rw [if_neg c76] at H
            have c76b0 : decide (t218 < 0) = false := decide_eq_false c76
            clear c76
            (first | rw [c76b0] | (simp only [i64_w, i32_w]; rw [c76b0]) | skip)
            have H' := Aside0.mk H
            clear H
            go_wp2_with (first | ((with_reducible refine gate_callee (f := 10) rfl ?_); refine goesL_ (some 100) rfl rfl Try.func10 (by kernel_rfl) rfl #[.slice Ao72 t208.length co72] rfl (by (try simp only [List.map_toArray, List.map_cons, List.map_nil]); first | done | rfl | (simp only [List.length_drop, List.length_take]; rfl)) ?_; (with_reducible refine (cantonref14_Right.calls kj29 _ _ t208 true _ ?side1 ?side2 A74.out).mono ?_); (case side1 => repeat (first | exact (Kd.V_reads' HO_15.out).2.2 | (with_reducible refine Kd.C_alloc ?_ _) | (with_reducible refine Kd.C_drewN ?_ _) | (with_reducible refine Kd.C_drew ?_))); (case side2 => exact (Kd.V_reads' HO_15.out).2.1); rintro e w78 ⟨rfl, hb⟩; refine ⟨_, rfl, ?_⟩; have n0_ := Aside0.mk (Kd.V_below (by (with_reducible repeat (first | apply Kd.V_alloc | apply Kd.V_drewN | apply Kd.V_drew)); exact HO_15.out) hb); have n1_ := Aside0.mk (blk_below (g := gb207) (o := .cells #[.string t202, .int .i64 t203, .int .i64 t204, .int .i64 t205] 27 (0, 0)) (by (with_reducible repeat (first | refine blk_drewN ?_ _ | refine blk_drew ?_ | refine blk_alloc ?_ _)); exact BK207.out) hb); have n2_ := Aside0.mk (blk_below (g := gb214) (o := .cells #[.string ((rd_T27 l0 t212).f0), .int .i64 ((rd_T27 l0 t212).f1), .int .i64 ((rd_T27 l0 t212).f2), .int .i64 ((rd_T27 l0 t212).f3)] 27 (0, 0)) (by (with_reducible repeat (first | refine blk_drewN ?_ _ | refine blk_drew ?_ | refine blk_alloc ?_ _)); exact BK214.out) hb); have n3_ := Aside0.mk (below_step (by repeat (first | (with_reducible first | exact HB.out | apply below_alloc | apply pw_below_drewN | apply below_drew1 | refine below_set ?_ GE207.out | refine below_set ?_ GE214.out) | exact HB.out)) hb); clear HO_15; clear BK207; clear BK214; clear HB; have HO_15 := n0_; have BK207 := n1_; have BK214 := n2_; have HB := n3_; clear n0_ n1_ n2_ n3_; (try clear hb); (try clear hb2); (try clear hk); (try clear hi)))
            go_meet
            case rel => exact ⟨_, (decide (t218 ≥ (t208.length : Int))), (by first | rfl | (simp; done) | (simp [*]; done)), H', ⟨by have := HJ6.out; have := HJ29.out; first | omega | exact Nat.le_refl _⟩, ⟨by (with_reducible repeat (first | apply Kd.V_alloc | apply Kd.V_drewN | apply Kd.V_drew)); exact HO_15.out⟩, ⟨by (with_reducible repeat (first | refine blk_drewN ?_ _ | refine blk_drew ?_ | refine blk_alloc ?_ _)); exact BK207.out⟩, ⟨by (with_reducible repeat (first | refine blk_drewN ?_ _ | refine blk_drew ?_ | refine blk_alloc ?_ _)); exact BK214.out⟩, ⟨by repeat (first | (with_reducible first | exact HB.out | apply below_alloc | apply pw_below_drewN | apply below_drew1 | refine below_set ?_ GE207.out | refine below_set ?_ GE214.out) | exact HB.out)⟩⟩
          ·replace c75 := Bool.eq_false_iff.mpr c75
           subst c75
           have H1 : (cantonlaw14_MountsKeep.j2 kj29 a1 a2 t195 t208 t218 true ((rd_T27 l0 t212).f0) ((rd_T27 l0 t212).f1) ((rd_T27 l0 t212).f2) ((rd_T27 l0 t212).f3)) = some r := by rw [if_neg (show ¬ (false = true) by decide)] at H; exact H
           clear H
           have H := H1
           clear H1
           have H' := Aside0.mk H
           clear H
           go_wp2_with (first | ((with_reducible refine gate_callee (f := 10) rfl ?_); refine goesL_ (some 100) rfl rfl Try.func10 (by kernel_rfl) rfl #[.slice Ao72 t208.length co72] rfl (by (try simp only [List.map_toArray, List.map_cons, List.map_nil]); first | done | rfl | (simp only [List.length_drop, List.length_take]; rfl)) ?_; (with_reducible refine (cantonref14_Right.calls kj29 _ _ t208 false _ ?side1 ?side2 A74.out).mono ?_); (case side1 => repeat (first | exact (Kd.V_reads' HO_15.out).2.2 | (with_reducible refine Kd.C_alloc ?_ _) | (with_reducible refine Kd.C_drewN ?_ _) | (with_reducible refine Kd.C_drew ?_))); (case side2 => exact (Kd.V_reads' HO_15.out).2.1); rintro e w79 ⟨rfl, hb⟩; refine ⟨_, rfl, ?_⟩; have n0_ := Aside0.mk (Kd.V_below (by (with_reducible repeat (first | apply Kd.V_alloc | apply Kd.V_drewN | apply Kd.V_drew)); exact HO_15.out) hb); have n1_ := Aside0.mk (blk_below (g := gb207) (o := .cells #[.string t202, .int .i64 t203, .int .i64 t204, .int .i64 t205] 27 (0, 0)) (by (with_reducible repeat (first | refine blk_drewN ?_ _ | refine blk_drew ?_ | refine blk_alloc ?_ _)); exact BK207.out) hb); have n2_ := Aside0.mk (blk_below (g := gb214) (o := .cells #[.string ((rd_T27 l0 t212).f0), .int .i64 ((rd_T27 l0 t212).f1), .int .i64 ((rd_T27 l0 t212).f2), .int .i64 ((rd_T27 l0 t212).f3)] 27 (0, 0)) (by (with_reducible repeat (first | refine blk_drewN ?_ _ | refine blk_drew ?_ | refine blk_alloc ?_ _)); exact BK214.out) hb); have n3_ := Aside0.mk (below_step (by repeat (first | (with_reducible first | exact HB.out | apply below_alloc | apply pw_below_drewN | apply below_drew1 | refine below_set ?_ GE207.out | refine below_set ?_ GE214.out) | exact HB.out)) hb); clear HO_15; clear BK207; clear BK214; clear HB; have HO_15 := n0_; have BK207 := n1_; have BK214 := n2_; have HB := n3_; clear n0_ n1_ n2_ n3_; (try clear hb); (try clear hb2); (try clear hk); (try clear hi)))
           go_meet
           case rel => exact ⟨_, (true), (by first | rfl | (simp; done) | (simp [*]; done)), H', ⟨by have := HJ6.out; have := HJ29.out; first | omega | exact Nat.le_refl _⟩, ⟨by (with_reducible repeat (first | apply Kd.V_alloc | apply Kd.V_drewN | apply Kd.V_drew)); exact HO_15.out⟩, ⟨by (with_reducible repeat (first | refine blk_drewN ?_ _ | refine blk_drew ?_ | refine blk_alloc ?_ _)); exact BK207.out⟩, ⟨by (with_reducible repeat (first | refine blk_drewN ?_ _ | refine blk_drew ?_ | refine blk_alloc ?_ _)); exact BK214.out⟩, ⟨by repeat (first | (with_reducible first | exact HB.out | apply below_alloc | apply pw_below_drewN | apply below_drew1 | refine below_set ?_ GE207.out | refine below_set ?_ GE214.out) | exact HB.out)⟩⟩
         case rest =>
          clear HC71
          try clear c1
          try clear p2
          try clear q2
          try clear hx2
          try clear c4
          try clear c5
          try clear c6
          try clear c7
          try clear c10
          try clear c15
          try clear p21
          try clear q21
          try clear hx21
          try clear c40
          try clear c40b0
          try clear c40b1
          try clear c43
          try clear c54
          try clear c55
          try clear c56
          try clear c56b0
          try clear c56b1
          try clear c69
          try clear c69b0
          try clear c69b1
          try clear c75
          try clear c76
          try clear c76b0
          try clear hx217_0
          try clear hx217_1
          try clear hx217_2
          try clear hx217_3
          try clear p2
          try clear p21
          try clear p217
          try clear q2
          try clear q21
          try clear q217
          obtain ⟨kq, x111_70, rfl, HA, HJ70, HO_15, BK207, BK214, HB⟩ := hcut
          cases kq with
          | zero => exact absurd HA.out (by simp [cantonlaw14_MountsKeep.j2])
          | succ kj70 =>
           have H := HA.out
           clear HA
           simp only [cantonlaw14_MountsKeep.j2] at H
           by_cases c80 : x111_70 = true
           ·subst c80
            have H1 : (some false) = some r := by rw [if_pos rfl] at H; exact H
            clear H
            have H := H1
            clear H1
            obtain rfl := Option.some.inj H
            go_wp2
            go_ret
            exact ⟨by first | rfl | (simp [errW_none, errW_some] <;> rfl) | (simp [*, errW_none, errW_some] <;> rfl), by repeat (first | (with_reducible first | exact HB.out | apply below_alloc | apply pw_below_drewN | apply below_drew1 | refine below_set ?_ GE207.out | refine below_set ?_ GE214.out) | exact HB.out)⟩
           ·replace c80 := Bool.eq_false_iff.mpr c80
            subst c80
            have H1 : (if 0 ≤ t218 then (if t218 < (t208.length : Int) then (if ((rd_T27 t208 t218).f0).toList = ((rd_T27 l0 t212).f0).toList then (if ((rd_T27 l0 t212).f0).toList = a1.toList then (if ((rd_T27 t208 t218).f1) = a2 then (some t195) else (some false)) else (if (!((((rd_T27 t208 t218).f0).toList) == ((rd_T27 l0 t212).f0).toList) || (!(((rd_T27 t208 t218).f1) == ((rd_T27 l0 t212).f1)) || (!(((rd_T27 t208 t218).f2) == ((rd_T27 l0 t212).f2)) || (!(((rd_T27 t208 t218).f3) == ((rd_T27 l0 t212).f3)))))) = true then (some false) else (some t195))) else (some false)) else (none)) else (none)) = some r := by rw [if_neg (show ¬ (false = true) by decide)] at H; exact H
            clear H
            have H := H1
            clear H1
            by_cases c81 : 0 ≤ t218
            ·rw [if_pos c81] at H
             have c81b0 : decide (0 ≤ t218) = true := decide_eq_true c81
             clear c81
             by_cases c82 : t218 < (t208.length : Int)
             ·rw [if_pos c82] at H
              have c82b0 : decide (t218 < (t208.length : Int)) = true := decide_eq_true c82
              clear c82
              by_cases c83 : ((rd_T27 t208 t218).f0).toList = ((rd_T27 l0 t212).f0).toList
              ·rw [if_pos c83] at H
               have c83b0 : (((rd_T27 t208 t218).f0).toList == ((rd_T27 l0 t212).f0).toList) = true := beq_iff_eq.mpr c83
               have c83b1 : (((rd_T27 t208 t218).f0).toList != ((rd_T27 l0 t212).f0).toList) = false := bne_eq_false_iff_eq.mpr c83
               clear c83
               by_cases c84 : ((rd_T27 l0 t212).f0).toList = a1.toList
               ·rw [if_pos c84] at H
                have c84b0 : (((rd_T27 l0 t212).f0).toList == a1.toList) = true := beq_iff_eq.mpr c84
                have c84b1 : (((rd_T27 l0 t212).f0).toList != a1.toList) = false := bne_eq_false_iff_eq.mpr c84
                clear c84
                by_cases c85 : ((rd_T27 t208 t218).f1) = a2
                ·rw [if_pos c85] at H
                 have c85b0 : (((rd_T27 t208 t218).f1) == a2) = true := beq_iff_eq.mpr c85
                 have c85b1 : (((rd_T27 t208 t218).f1) != a2) = false := bne_eq_false_iff_eq.mpr c85
                 clear c85
                 obtain rfl := Option.some.inj H
                 try go_wp2
                 have n0_ := Aside0.mk (Kd.V_drew HO_15.out)
                 have n1_ := Aside0.mk (blk_drew BK207.out)
                 have n2_ := Aside0.mk (blk_drew BK214.out)
                 have n3_ := Aside0.mk (below_drew1 HB.out)
                 clear HO_15
                 clear BK207
                 clear BK214
                 clear HB
                 have HO_15 := n0_
                 have BK207 := n1_
                 have BK214 := n2_
                 have HB := n3_
                 clear n0_ n1_ n2_ n3_
                 have p220 : 0 ≤ (t218 : Int) := of_decide_eq_true (by first | (with_reducible assumption) | assumption)
                 have q220 : t218 < (t208.length : Int) := of_decide_eq_true (by first | (with_reducible assumption) | assumption)
                 obtain ⟨ad220, e220, hx220_0, hx220_1, hx220_2, hx220_3⟩ := at_T27 (Kd.V_reads' HO_15.out).2.2 t218 p220 q220
                 cases e220
                 replace p220 := eq_true p220
                 replace q220 := eq_true q220
                 have p221 : 0 ≤ (t218 : Int) := of_decide_eq_true (by first | (with_reducible assumption) | assumption)
                 have q221 : t218 < (t208.length : Int) := of_decide_eq_true (by first | (with_reducible assumption) | assumption)
                 obtain ⟨ad221, e221, hx221_0, hx221_1, hx221_2, hx221_3⟩ := at_T27 (Kd.V_reads' HO_15.out).2.2 t218 p221 q221
                 obtain rfl : ad220 = ad221 := (by injection e221)
                 replace p221 := eq_true p221
                 replace q221 := eq_true q221
                 refine start_ (n := 37) (S := fun w' => w'.cell? ⟨gb214, 0, none⟩ = some (.string ((rd_T27 l0 t212).f0)) ∧ w'.cell? ⟨gb214, 1, none⟩ = some (.int .i64 ((rd_T27 l0 t212).f1)) ∧ w'.cell? ⟨gb214, 2, none⟩ = some (.int .i64 ((rd_T27 l0 t212).f2)) ∧ w'.cell? ⟨gb214, 3, none⟩ = some (.int .i64 ((rd_T27 l0 t212).f3)) ∧ w'.cell? (ad220.add ((t218).toNat * 4)) = some (.string ((rd_T27 t208 t218).f0)) ∧ w'.cell? ⟨(ad220.add ((t218).toNat * 4)).block, (ad220.add ((t218).toNat * 4)).off + 1, none⟩ = some (.int .i64 ((rd_T27 t208 t218).f1)) ∧ w'.cell? ⟨(ad220.add ((t218).toNat * 4)).block, (ad220.add ((t218).toNat * 4)).off + 2, none⟩ = some (.int .i64 ((rd_T27 t208 t218).f2)) ∧ w'.cell? ⟨(ad220.add ((t218).toNat * 4)).block, (ad220.add ((t218).toNat * 4)).off + 3, none⟩ = some (.int .i64 ((rd_T27 t208 t218).f3)) ∧ w'.cell? (ad220.add ((t218).toNat * 4)) = some (.string ((rd_T27 t208 t218).f0)) ∧ w'.cell? ⟨(ad220.add ((t218).toNat * 4)).block, (ad220.add ((t218).toNat * 4)).off + 1, none⟩ = some (.int .i64 ((rd_T27 t208 t218).f1)) ∧ w'.cell? ⟨(ad220.add ((t218).toNat * 4)).block, (ad220.add ((t218).toNat * 4)).off + 2, none⟩ = some (.int .i64 ((rd_T27 t208 t218).f2)) ∧ w'.cell? ⟨(ad220.add ((t218).toNat * 4)).block, (ad220.add ((t218).toNat * 4)).off + 3, none⟩ = some (.int .i64 ((rd_T27 t208 t218).f3))) (ds := []) x11tr37_0 (by kernel_rfl) rfl rfl ⟨(blk_cell BK214.out 0).trans rfl, (blk_cell BK214.out 1).trans rfl, (blk_cell BK214.out 2).trans rfl, (blk_cell BK214.out 3).trans rfl, hx220_0, hx220_1, hx220_2, hx220_3, hx221_0, hx221_1, hx221_2, hx221_3⟩ (fun hHeld => ?_); refine with_tabW cantonlaw14_MountsKeep.tab15 cantonlaw14_MountsKeep.bits15 (fun HT_ HW_ => ?_)
                 generalize wc.drew = w86 at HO_15 BK207 BK214 HB hx220_0 hx220_1 hx220_2 hx220_3 hx221_0 hx221_1 hx221_2 hx221_3 hHeld ⊢
                 refine pA_ 0 112 x11tr37_1 HT_.out ?_
                 refine pA_ 1 113 x11tr37_2 HT_.out ?_
                 refine pA_ 2 114 x11tr37_3 HT_.out ?_
                 refine pA_ 3 115 x11tr37_4 HT_.out ?_
                 refine pA_ 5 117 x11tr37_m1111010000000000000000000000000000000 HT_.out ?_
                 refine take_ (i := 4) (N := some 116) (v := ?_) (a' := ?_) x11tr37_6 rfl rfl (take_ofW HT_.out HW_.out (by kernel_rfl)) (fun _ _ _ h => h) (Or.inl ⟨by rfl, ?_⟩) hHeld ?_ ?_
                 rotate_left
                 ·rintro w' ⟨s0, s1, s2, s3, s4, s5, s6, s7, s8, s9, s10, s11⟩
                  go_simp
                  with_reducible rfl
                 rotate_left
                 ·simp only [Act.put, List.setIfInBounds_toArray, List.set_cons_zero, List.set_cons_succ, i64_w, i32_w]
                  rfl
                 refine take_ (i := 6) (N := some 118) (v := ?_) (a' := ?_) x11tr37_7 rfl rfl (take_ofW HT_.out HW_.out (by kernel_rfl)) (fun _ _ _ h => h) (Or.inl ⟨by rfl, ?_⟩) hHeld ?_ ?_
                 rotate_left
                 ·rintro w' ⟨s0, s1, s2, s3, s4, s5, s6, s7, s8, s9, s10, s11⟩
                  go_simp
                  with_reducible rfl
                 rotate_left
                 ·simp only [Act.put, List.setIfInBounds_toArray, List.set_cons_zero, List.set_cons_succ, i64_w, i32_w]
                  rfl
                 refine pA_ 7 119 x11tr37_8 HT_.out ?_
                 refine pA_ 8 120 x11tr37_9 HT_.out ?_
                 refine pA_ 9 121 x11tr37_10 HT_.out ?_
                 refine pA_ 11 123 x11tr37_m1111111111010000000000000000000000000 HT_.out ?_
                 refine take_ (i := 10) (N := some 122) (v := ?_) (a' := ?_) x11tr37_12 rfl rfl (take_ofW HT_.out HW_.out (by kernel_rfl)) (fun _ _ _ h => h) (Or.inl ⟨by rfl, ?_⟩) hHeld ?_ ?_
                 rotate_left
                 ·rintro w' ⟨s0, s1, s2, s3, s4, s5, s6, s7, s8, s9, s10, s11⟩
                  go_simp
                  with_reducible rfl
                 rotate_left
                 ·simp only [Act.put, List.setIfInBounds_toArray, List.set_cons_zero, List.set_cons_succ, i64_w, i32_w]
                  rfl
                 refine pA_ 12 124 x11tr37_13 HT_.out ?_
                 refine pA_ 13 125 x11tr37_14 HT_.out ?_
                 refine pU_ 14 126 x11tr37_15 HT_.out ?_
                 refine pU_ 15 127 x11tr37_16 HT_.out ?_
                 refine pU_ 16 128 x11tr37_17 HT_.out ?_
                 refine pU_ 17 129 x11tr37_18 HT_.out ?_
                 refine pU_ 18 130 x11tr37_19 HT_.out ?_
                 refine pU_ 19 131 x11tr37_20 HT_.out ?_
                 refine pA_ 20 132 x11tr37_21 HT_.out ?_
                 refine pA_ 21 133 x11tr37_22 HT_.out ?_
                 refine pA_ 22 134 x11tr37_23 HT_.out ?_
                 refine pA_ 23 135 x11tr37_24 HT_.out ?_
                 refine pA_ 25 137 x11tr37_m1111111111111111111111110100000000000 HT_.out ?_
                 refine take_ (i := 24) (N := some 136) (v := ?_) (a' := ?_) x11tr37_26 rfl rfl (take_ofW HT_.out HW_.out (by kernel_rfl)) (fun _ _ _ h => h) (Or.inl ⟨by rfl, ?_⟩) hHeld ?_ ?_
                 rotate_left
                 ·rintro w' ⟨s0, s1, s2, s3, s4, s5, s6, s7, s8, s9, s10, s11⟩
                  go_simp
                  with_reducible rfl
                 rotate_left
                 ·simp only [Act.put, List.setIfInBounds_toArray, List.set_cons_zero, List.set_cons_succ, i64_w, i32_w]
                  rfl
                 refine pA_ 26 138 x11tr37_27 HT_.out ?_
                 refine pA_ 27 139 x11tr37_28 HT_.out ?_
                 refine pA_ 28 140 x11tr37_29 HT_.out ?_
                 refine pA_ 29 141 x11tr37_30 HT_.out ?_
                 refine pA_ 30 142 x11tr37_31 HT_.out ?_
                 refine pA_ 31 143 x11tr37_32 HT_.out ?_
                 refine pA_ 33 145 x11tr37_m1111111111111111111111111111111101000 HT_.out ?_
                 refine take_ (i := 32) (N := some 144) (v := ?_) (a' := ?_) x11tr37_34 rfl rfl (take_ofW HT_.out HW_.out (by kernel_rfl)) (fun _ _ _ h => h) (Or.inl ⟨by rfl, ?_⟩) hHeld ?_ ?_
                 rotate_left
                 ·rintro w' ⟨s0, s1, s2, s3, s4, s5, s6, s7, s8, s9, s10, s11⟩
                  go_simp
                  with_reducible rfl
                 rotate_left
                 ·simp only [Act.put, List.setIfInBounds_toArray, List.set_cons_zero, List.set_cons_succ, i64_w, i32_w]
                  rfl
                 refine pA_ 34 146 x11tr37_35 HT_.out ?_
                 refine pA_ 35 147 x11tr37_36 HT_.out ?_
                 refine pA_ 36 148 x11tr37_37 HT_.out ?_
                 refine done_ (done_of HT_.out (by kernel_rfl)) ?_
                 try go_wp2
                 go_ret
                 exact ⟨by first | rfl | (simp [errW_none, errW_some] <;> rfl) | (simp [*, errW_none, errW_some] <;> rfl), by repeat (first | (with_reducible first | exact HB.out | apply below_alloc | apply pw_below_drewN | apply below_drew1 | refine below_set ?_ GE207.out | refine below_set ?_ GE214.out) | exact HB.out)⟩
                ·rw [if_neg c85] at H
                 have c85b0 : (((rd_T27 t208 t218).f1) == a2) = false := beq_eq_false_iff_ne.mpr c85
                 have c85b1 : (((rd_T27 t208 t218).f1) != a2) = true := bne_iff_ne.mpr c85
                 obtain rfl := Option.some.inj H
                 try go_wp2
                 have n0_ := Aside0.mk (Kd.V_drew HO_15.out)
                 have n1_ := Aside0.mk (blk_drew BK207.out)
                 have n2_ := Aside0.mk (blk_drew BK214.out)
                 have n3_ := Aside0.mk (below_drew1 HB.out)
                 clear HO_15
                 clear BK207
                 clear BK214
                 clear HB
                 have HO_15 := n0_
                 have BK207 := n1_
                 have BK214 := n2_
                 have HB := n3_
                 clear n0_ n1_ n2_ n3_
                 have p220 : 0 ≤ (t218 : Int) := of_decide_eq_true (by first | (with_reducible assumption) | assumption)
                 have q220 : t218 < (t208.length : Int) := of_decide_eq_true (by first | (with_reducible assumption) | assumption)
                 obtain ⟨ad220, e220, hx220_0, hx220_1, hx220_2, hx220_3⟩ := at_T27 (Kd.V_reads' HO_15.out).2.2 t218 p220 q220
                 cases e220
                 replace p220 := eq_true p220
                 replace q220 := eq_true q220
                 have p221 : 0 ≤ (t218 : Int) := of_decide_eq_true (by first | (with_reducible assumption) | assumption)
                 have q221 : t218 < (t208.length : Int) := of_decide_eq_true (by first | (with_reducible assumption) | assumption)
                 obtain ⟨ad221, e221, hx221_0, hx221_1, hx221_2, hx221_3⟩ := at_T27 (Kd.V_reads' HO_15.out).2.2 t218 p221 q221
                 obtain rfl : ad220 = ad221 := (by injection e221)
                 replace p221 := eq_true p221
                 replace q221 := eq_true q221
                 refine start_ (n := 37) (S := fun w' => w'.cell? ⟨gb214, 0, none⟩ = some (.string ((rd_T27 l0 t212).f0)) ∧ w'.cell? ⟨gb214, 1, none⟩ = some (.int .i64 ((rd_T27 l0 t212).f1)) ∧ w'.cell? ⟨gb214, 2, none⟩ = some (.int .i64 ((rd_T27 l0 t212).f2)) ∧ w'.cell? ⟨gb214, 3, none⟩ = some (.int .i64 ((rd_T27 l0 t212).f3)) ∧ w'.cell? (ad220.add ((t218).toNat * 4)) = some (.string ((rd_T27 t208 t218).f0)) ∧ w'.cell? ⟨(ad220.add ((t218).toNat * 4)).block, (ad220.add ((t218).toNat * 4)).off + 1, none⟩ = some (.int .i64 ((rd_T27 t208 t218).f1)) ∧ w'.cell? ⟨(ad220.add ((t218).toNat * 4)).block, (ad220.add ((t218).toNat * 4)).off + 2, none⟩ = some (.int .i64 ((rd_T27 t208 t218).f2)) ∧ w'.cell? ⟨(ad220.add ((t218).toNat * 4)).block, (ad220.add ((t218).toNat * 4)).off + 3, none⟩ = some (.int .i64 ((rd_T27 t208 t218).f3)) ∧ w'.cell? (ad220.add ((t218).toNat * 4)) = some (.string ((rd_T27 t208 t218).f0)) ∧ w'.cell? ⟨(ad220.add ((t218).toNat * 4)).block, (ad220.add ((t218).toNat * 4)).off + 1, none⟩ = some (.int .i64 ((rd_T27 t208 t218).f1)) ∧ w'.cell? ⟨(ad220.add ((t218).toNat * 4)).block, (ad220.add ((t218).toNat * 4)).off + 2, none⟩ = some (.int .i64 ((rd_T27 t208 t218).f2)) ∧ w'.cell? ⟨(ad220.add ((t218).toNat * 4)).block, (ad220.add ((t218).toNat * 4)).off + 3, none⟩ = some (.int .i64 ((rd_T27 t208 t218).f3))) (ds := []) x11tr37_0 (by kernel_rfl) rfl rfl ⟨(blk_cell BK214.out 0).trans rfl, (blk_cell BK214.out 1).trans rfl, (blk_cell BK214.out 2).trans rfl, (blk_cell BK214.out 3).trans rfl, hx220_0, hx220_1, hx220_2, hx220_3, hx221_0, hx221_1, hx221_2, hx221_3⟩ (fun hHeld => ?_); refine with_tabW cantonlaw14_MountsKeep.tab15 cantonlaw14_MountsKeep.bits15 (fun HT_ HW_ => ?_)
                 generalize wc.drew = w87 at HO_15 BK207 BK214 HB hx220_0 hx220_1 hx220_2 hx220_3 hx221_0 hx221_1 hx221_2 hx221_3 hHeld ⊢
                 refine pA_ 0 112 x11tr37_1 HT_.out ?_
                 refine pA_ 1 113 x11tr37_2 HT_.out ?_
                 refine pA_ 2 114 x11tr37_3 HT_.out ?_
                 refine pA_ 3 115 x11tr37_4 HT_.out ?_
                 refine pA_ 5 117 x11tr37_m1111010000000000000000000000000000000 HT_.out ?_
                 refine take_ (i := 4) (N := some 116) (v := ?_) (a' := ?_) x11tr37_6 rfl rfl (take_ofW HT_.out HW_.out (by kernel_rfl)) (fun _ _ _ h => h) (Or.inl ⟨by rfl, ?_⟩) hHeld ?_ ?_
                 rotate_left
                 ·rintro w' ⟨s0, s1, s2, s3, s4, s5, s6, s7, s8, s9, s10, s11⟩
                  go_simp
                  with_reducible rfl
                 rotate_left
                 ·simp only [Act.put, List.setIfInBounds_toArray, List.set_cons_zero, List.set_cons_succ, i64_w, i32_w]
                  rfl
                 refine take_ (i := 6) (N := some 118) (v := ?_) (a' := ?_) x11tr37_7 rfl rfl (take_ofW HT_.out HW_.out (by kernel_rfl)) (fun _ _ _ h => h) (Or.inl ⟨by rfl, ?_⟩) hHeld ?_ ?_
                 rotate_left
                 ·rintro w' ⟨s0, s1, s2, s3, s4, s5, s6, s7, s8, s9, s10, s11⟩
                  go_simp
                  with_reducible rfl
                 rotate_left
                 ·simp only [Act.put, List.setIfInBounds_toArray, List.set_cons_zero, List.set_cons_succ, i64_w, i32_w]
                  rfl
                 refine pA_ 7 119 x11tr37_8 HT_.out ?_
                 refine pA_ 8 120 x11tr37_9 HT_.out ?_
                 refine pA_ 9 121 x11tr37_10 HT_.out ?_
                 refine pA_ 11 123 x11tr37_m1111111111010000000000000000000000000 HT_.out ?_
                 refine take_ (i := 10) (N := some 122) (v := ?_) (a' := ?_) x11tr37_12 rfl rfl (take_ofW HT_.out HW_.out (by kernel_rfl)) (fun _ _ _ h => h) (Or.inl ⟨by rfl, ?_⟩) hHeld ?_ ?_
                 rotate_left
                 ·rintro w' ⟨s0, s1, s2, s3, s4, s5, s6, s7, s8, s9, s10, s11⟩
                  go_simp
                  with_reducible rfl
                 rotate_left
                 ·simp only [Act.put, List.setIfInBounds_toArray, List.set_cons_zero, List.set_cons_succ, i64_w, i32_w]
                  rfl
                 refine pA_ 12 124 x11tr37_13 HT_.out ?_
                 refine pA_ 13 125 x11tr37_14 HT_.out ?_
                 refine pU_ 14 126 x11tr37_15 HT_.out ?_
                 refine pU_ 15 127 x11tr37_16 HT_.out ?_
                 refine pU_ 16 128 x11tr37_17 HT_.out ?_
                 refine pU_ 17 129 x11tr37_18 HT_.out ?_
                 refine pU_ 18 130 x11tr37_19 HT_.out ?_
                 refine pU_ 19 131 x11tr37_20 HT_.out ?_
                 refine pA_ 20 132 x11tr37_21 HT_.out ?_
                 refine pA_ 21 133 x11tr37_22 HT_.out ?_
                 refine pA_ 22 134 x11tr37_23 HT_.out ?_
                 refine pA_ 23 135 x11tr37_24 HT_.out ?_
                 refine pA_ 25 137 x11tr37_m1111111111111111111111110100000000000 HT_.out ?_
                 refine take_ (i := 24) (N := some 136) (v := ?_) (a' := ?_) x11tr37_26 rfl rfl (take_ofW HT_.out HW_.out (by kernel_rfl)) (fun _ _ _ h => h) (Or.inl ⟨by rfl, ?_⟩) hHeld ?_ ?_
                 rotate_left
                 ·rintro w' ⟨s0, s1, s2, s3, s4, s5, s6, s7, s8, s9, s10, s11⟩
                  go_simp
                  with_reducible rfl
                 rotate_left
                 ·simp only [Act.put, List.setIfInBounds_toArray, List.set_cons_zero, List.set_cons_succ, i64_w, i32_w]
                  rfl
                 refine pA_ 26 138 x11tr37_27 HT_.out ?_
                 refine pA_ 27 139 x11tr37_28 HT_.out ?_
                 refine pA_ 28 140 x11tr37_29 HT_.out ?_
                 refine pA_ 29 141 x11tr37_30 HT_.out ?_
                 refine pA_ 30 142 x11tr37_31 HT_.out ?_
                 refine pA_ 31 143 x11tr37_32 HT_.out ?_
                 refine pA_ 33 145 x11tr37_m1111111111111111111111111111111101000 HT_.out ?_
                 refine take_ (i := 32) (N := some 144) (v := ?_) (a' := ?_) x11tr37_34 rfl rfl (take_ofW HT_.out HW_.out (by kernel_rfl)) (fun _ _ _ h => h) (Or.inl ⟨by rfl, ?_⟩) hHeld ?_ ?_
                 rotate_left
                 ·rintro w' ⟨s0, s1, s2, s3, s4, s5, s6, s7, s8, s9, s10, s11⟩
                  go_simp
                  with_reducible rfl
                 rotate_left
                 ·simp only [Act.put, List.setIfInBounds_toArray, List.set_cons_zero, List.set_cons_succ, i64_w, i32_w]
                  rfl
                 refine pA_ 34 146 x11tr37_35 HT_.out ?_
                 refine pA_ 35 147 x11tr37_36 HT_.out ?_
                 refine pA_ 36 148 x11tr37_37 HT_.out ?_
                 refine done_ (done_of HT_.out (by kernel_rfl)) ?_
                 try go_wp2
                 go_ret
                 exact ⟨by first | rfl | (simp [errW_none, errW_some] <;> rfl) | (simp [*, errW_none, errW_some] <;> rfl), by repeat (first | (with_reducible first | exact HB.out | apply below_alloc | apply pw_below_drewN | apply below_drew1 | refine below_set ?_ GE207.out | refine below_set ?_ GE214.out) | exact HB.out)⟩
               ·rw [if_neg c84] at H
                have c84b0 : (((rd_T27 l0 t212).f0).toList == a1.toList) = false := beq_eq_false_iff_ne.mpr c84
                have c84b1 : (((rd_T27 l0 t212).f0).toList != a1.toList) = true := bne_iff_ne.mpr c84
                by_cases c88 : (!((((rd_T27 t208 t218).f0).toList) == ((rd_T27 l0 t212).f0).toList) || (!(((rd_T27 t208 t218).f1) == ((rd_T27 l0 t212).f1)) || (!(((rd_T27 t208 t218).f2) == ((rd_T27 l0 t212).f2)) || (!(((rd_T27 t208 t218).f3) == ((rd_T27 l0 t212).f3)))))) = true
                ·rw [if_pos c88] at H
                 have c88b0 : (!((((rd_T27 t208 t218).f0).toList) == ((rd_T27 l0 t212).f0).toList) || (!(((rd_T27 t208 t218).f1) == ((rd_T27 l0 t212).f1)) || (!(((rd_T27 t208 t218).f2) == ((rd_T27 l0 t212).f2)) || (!(((rd_T27 t208 t218).f3) == ((rd_T27 l0 t212).f3)))))) = true := c88
                 (try simp only [c83b0, Bool.not_true, Bool.false_or] at c88b0)
                 clear c88
                 obtain rfl := Option.some.inj H
                 try go_wp2
                 have n0_ := Aside0.mk (Kd.V_drew HO_15.out)
                 have n1_ := Aside0.mk (blk_drew BK207.out)
                 have n2_ := Aside0.mk (blk_drew BK214.out)
                 have n3_ := Aside0.mk (below_drew1 HB.out)
                 clear HO_15
                 clear BK207
                 clear BK214
                 clear HB
                 have HO_15 := n0_
                 have BK207 := n1_
                 have BK214 := n2_
                 have HB := n3_
                 clear n0_ n1_ n2_ n3_
                 have p220 : 0 ≤ (t218 : Int) := of_decide_eq_true (by first | (with_reducible assumption) | assumption)
                 have q220 : t218 < (t208.length : Int) := of_decide_eq_true (by first | (with_reducible assumption) | assumption)
                 obtain ⟨ad220, e220, hx220_0, hx220_1, hx220_2, hx220_3⟩ := at_T27 (Kd.V_reads' HO_15.out).2.2 t218 p220 q220
                 cases e220
                 replace p220 := eq_true p220
                 replace q220 := eq_true q220
                 have p222 : 0 ≤ (t218 : Int) := of_decide_eq_true (by first | (with_reducible assumption) | assumption)
                 have q222 : t218 < (t208.length : Int) := of_decide_eq_true (by first | (with_reducible assumption) | assumption)
                 obtain ⟨ad222, e222, hx222_0, hx222_1, hx222_2, hx222_3⟩ := at_T27 (Kd.V_reads' HO_15.out).2.2 t218 p222 q222
                 obtain rfl : ad220 = ad222 := (by injection e222)
                 replace p222 := eq_true p222
                 replace q222 := eq_true q222
                 refine start_ (n := 37) (S := fun w' => w'.cell? ⟨gb214, 0, none⟩ = some (.string ((rd_T27 l0 t212).f0)) ∧ w'.cell? ⟨gb214, 1, none⟩ = some (.int .i64 ((rd_T27 l0 t212).f1)) ∧ w'.cell? ⟨gb214, 2, none⟩ = some (.int .i64 ((rd_T27 l0 t212).f2)) ∧ w'.cell? ⟨gb214, 3, none⟩ = some (.int .i64 ((rd_T27 l0 t212).f3)) ∧ w'.cell? (ad220.add ((t218).toNat * 4)) = some (.string ((rd_T27 t208 t218).f0)) ∧ w'.cell? ⟨(ad220.add ((t218).toNat * 4)).block, (ad220.add ((t218).toNat * 4)).off + 1, none⟩ = some (.int .i64 ((rd_T27 t208 t218).f1)) ∧ w'.cell? ⟨(ad220.add ((t218).toNat * 4)).block, (ad220.add ((t218).toNat * 4)).off + 2, none⟩ = some (.int .i64 ((rd_T27 t208 t218).f2)) ∧ w'.cell? ⟨(ad220.add ((t218).toNat * 4)).block, (ad220.add ((t218).toNat * 4)).off + 3, none⟩ = some (.int .i64 ((rd_T27 t208 t218).f3)) ∧ w'.cell? (ad220.add ((t218).toNat * 4)) = some (.string ((rd_T27 t208 t218).f0)) ∧ w'.cell? ⟨(ad220.add ((t218).toNat * 4)).block, (ad220.add ((t218).toNat * 4)).off + 1, none⟩ = some (.int .i64 ((rd_T27 t208 t218).f1)) ∧ w'.cell? ⟨(ad220.add ((t218).toNat * 4)).block, (ad220.add ((t218).toNat * 4)).off + 2, none⟩ = some (.int .i64 ((rd_T27 t208 t218).f2)) ∧ w'.cell? ⟨(ad220.add ((t218).toNat * 4)).block, (ad220.add ((t218).toNat * 4)).off + 3, none⟩ = some (.int .i64 ((rd_T27 t208 t218).f3))) (ds := []) x11tr37_0 (by kernel_rfl) rfl rfl ⟨(blk_cell BK214.out 0).trans rfl, (blk_cell BK214.out 1).trans rfl, (blk_cell BK214.out 2).trans rfl, (blk_cell BK214.out 3).trans rfl, hx220_0, hx220_1, hx220_2, hx220_3, hx222_0, hx222_1, hx222_2, hx222_3⟩ (fun hHeld => ?_); refine with_tabW cantonlaw14_MountsKeep.tab15 cantonlaw14_MountsKeep.bits15 (fun HT_ HW_ => ?_)
                 generalize wc.drew = w89 at HO_15 BK207 BK214 HB hx220_0 hx220_1 hx220_2 hx220_3 hx222_0 hx222_1 hx222_2 hx222_3 hHeld ⊢
                 refine pA_ 0 112 x11tr37_1 HT_.out ?_
                 refine pA_ 1 113 x11tr37_2 HT_.out ?_
                 refine pA_ 2 114 x11tr37_3 HT_.out ?_
                 refine pA_ 3 115 x11tr37_4 HT_.out ?_
                 refine pA_ 5 117 x11tr37_m1111010000000000000000000000000000000 HT_.out ?_
                 refine take_ (i := 4) (N := some 116) (v := ?_) (a' := ?_) x11tr37_6 rfl rfl (take_ofW HT_.out HW_.out (by kernel_rfl)) (fun _ _ _ h => h) (Or.inl ⟨by rfl, ?_⟩) hHeld ?_ ?_
                 rotate_left
                 ·rintro w' ⟨s0, s1, s2, s3, s4, s5, s6, s7, s8, s9, s10, s11⟩
                  go_simp
                  with_reducible rfl
                 rotate_left
                 ·simp only [Act.put, List.setIfInBounds_toArray, List.set_cons_zero, List.set_cons_succ, i64_w, i32_w]
                  rfl
                 refine take_ (i := 6) (N := some 118) (v := ?_) (a' := ?_) x11tr37_7 rfl rfl (take_ofW HT_.out HW_.out (by kernel_rfl)) (fun _ _ _ h => h) (Or.inl ⟨by rfl, ?_⟩) hHeld ?_ ?_
                 rotate_left
                 ·rintro w' ⟨s0, s1, s2, s3, s4, s5, s6, s7, s8, s9, s10, s11⟩
                  go_simp
                  with_reducible rfl
                 rotate_left
                 ·simp only [Act.put, List.setIfInBounds_toArray, List.set_cons_zero, List.set_cons_succ, i64_w, i32_w]
                  rfl
                 refine pA_ 7 119 x11tr37_8 HT_.out ?_
                 refine pA_ 8 120 x11tr37_9 HT_.out ?_
                 refine pA_ 9 121 x11tr37_10 HT_.out ?_
                 refine pA_ 11 123 x11tr37_m1111111111010000000000000000000000000 HT_.out ?_
                 refine take_ (i := 10) (N := some 122) (v := ?_) (a' := ?_) x11tr37_12 rfl rfl (take_ofW HT_.out HW_.out (by kernel_rfl)) (fun _ _ _ h => h) (Or.inl ⟨by rfl, ?_⟩) hHeld ?_ ?_
                 rotate_left
                 ·rintro w' ⟨s0, s1, s2, s3, s4, s5, s6, s7, s8, s9, s10, s11⟩
                  go_simp
                  with_reducible rfl
                 rotate_left
                 ·simp only [Act.put, List.setIfInBounds_toArray, List.set_cons_zero, List.set_cons_succ, i64_w, i32_w]
                  rfl
                 refine pA_ 12 124 x11tr37_13 HT_.out ?_
                 refine pA_ 13 125 x11tr37_14 HT_.out ?_
                 refine pA_ 14 126 x11tr37_15 HT_.out ?_
                 refine pA_ 15 127 x11tr37_16 HT_.out ?_
                 refine pA_ 16 128 x11tr37_17 HT_.out ?_
                 refine take_ (i := 17) (N := some 129) (v := ?_) (a' := ?_) x11tr37_18 rfl rfl (take_ofW HT_.out HW_.out (by kernel_rfl)) (fun _ _ _ h => h) (Or.inl ⟨by rfl, ?_⟩) hHeld ?_ ?_
                 rotate_left
                 ·rintro w' ⟨s0, s1, s2, s3, s4, s5, s6, s7, s8, s9, s10, s11⟩
                  go_simp
                  with_reducible rfl
                 rotate_left
                 ·simp only [Act.put, List.setIfInBounds_toArray, List.set_cons_zero, List.set_cons_succ, i64_w, i32_w]
                  rfl
                 refine take_ (i := 18) (N := some 130) (v := ?_) (a' := ?_) x11tr37_19 rfl rfl (take_ofW HT_.out HW_.out (by kernel_rfl)) (fun _ _ _ h => h) (Or.inl ⟨by rfl, ?_⟩) hHeld ?_ ?_
                 rotate_left
                 ·rintro w' ⟨s0, s1, s2, s3, s4, s5, s6, s7, s8, s9, s10, s11⟩
                  go_simp
                  with_reducible rfl
                 rotate_left
                 ·simp only [Act.put, List.setIfInBounds_toArray, List.set_cons_zero, List.set_cons_succ, i64_w, i32_w]
                  rfl
                 refine pA_ 19 131 x11tr37_20 HT_.out ?_
                 refine pA_ 20 132 x11tr37_21 HT_.out ?_
                 refine pA_ 21 133 x11tr37_22 HT_.out ?_
                 refine pA_ 22 134 x11tr37_23 HT_.out ?_
                 refine pU_ 23 135 x11tr37_24 HT_.out ?_
                 refine pU_ 24 136 x11tr37_25 HT_.out ?_
                 refine pU_ 25 137 x11tr37_26 HT_.out ?_
                 refine pU_ 26 138 x11tr37_27 HT_.out ?_
                 refine pU_ 27 139 x11tr37_28 HT_.out ?_
                 refine pU_ 28 140 x11tr37_29 HT_.out ?_
                 refine pU_ 29 141 x11tr37_30 HT_.out ?_
                 refine pU_ 30 142 x11tr37_31 HT_.out ?_
                 refine pU_ 31 143 x11tr37_32 HT_.out ?_
                 refine pU_ 32 144 x11tr37_33 HT_.out ?_
                 refine pU_ 33 145 x11tr37_34 HT_.out ?_
                 refine pU_ 34 146 x11tr37_35 HT_.out ?_
                 refine pU_ 35 147 x11tr37_36 HT_.out ?_
                 refine pA_ 36 148 x11tr37_37 HT_.out ?_
                 refine done_ (done_of HT_.out (by kernel_rfl)) ?_
                 try go_wp2
                 go_ret
                 exact ⟨by first | rfl | (simp [errW_none, errW_some] <;> rfl) | (simp [*, errW_none, errW_some] <;> rfl), by repeat (first | (with_reducible first | exact HB.out | apply below_alloc | apply pw_below_drewN | apply below_drew1 | refine below_set ?_ GE207.out | refine below_set ?_ GE214.out) | exact HB.out)⟩
                ·rw [if_neg c88] at H
                 have c88b0 : (!((((rd_T27 t208 t218).f0).toList) == ((rd_T27 l0 t212).f0).toList) || (!(((rd_T27 t208 t218).f1) == ((rd_T27 l0 t212).f1)) || (!(((rd_T27 t208 t218).f2) == ((rd_T27 l0 t212).f2)) || (!(((rd_T27 t208 t218).f3) == ((rd_T27 l0 t212).f3)))))) = false := by simpa using c88
                 (try simp only [c83b0, Bool.not_true, Bool.false_or] at c88b0)
                 clear c88
                 obtain rfl := Option.some.inj H
                 try go_wp2
                 have n0_ := Aside0.mk (Kd.V_drew HO_15.out)
                 have n1_ := Aside0.mk (blk_drew BK207.out)
                 have n2_ := Aside0.mk (blk_drew BK214.out)
                 have n3_ := Aside0.mk (below_drew1 HB.out)
                 clear HO_15
                 clear BK207
                 clear BK214
                 clear HB
                 have HO_15 := n0_
                 have BK207 := n1_
                 have BK214 := n2_
                 have HB := n3_
                 clear n0_ n1_ n2_ n3_
                 have p220 : 0 ≤ (t218 : Int) := of_decide_eq_true (by first | (with_reducible assumption) | assumption)
                 have q220 : t218 < (t208.length : Int) := of_decide_eq_true (by first | (with_reducible assumption) | assumption)
                 obtain ⟨ad220, e220, hx220_0, hx220_1, hx220_2, hx220_3⟩ := at_T27 (Kd.V_reads' HO_15.out).2.2 t218 p220 q220
                 cases e220
                 replace p220 := eq_true p220
                 replace q220 := eq_true q220
                 have p222 : 0 ≤ (t218 : Int) := of_decide_eq_true (by first | (with_reducible assumption) | assumption)
                 have q222 : t218 < (t208.length : Int) := of_decide_eq_true (by first | (with_reducible assumption) | assumption)
                 obtain ⟨ad222, e222, hx222_0, hx222_1, hx222_2, hx222_3⟩ := at_T27 (Kd.V_reads' HO_15.out).2.2 t218 p222 q222
                 obtain rfl : ad220 = ad222 := (by injection e222)
                 replace p222 := eq_true p222
                 replace q222 := eq_true q222
                 refine start_ (n := 37) (S := fun w' => w'.cell? ⟨gb214, 0, none⟩ = some (.string ((rd_T27 l0 t212).f0)) ∧ w'.cell? ⟨gb214, 1, none⟩ = some (.int .i64 ((rd_T27 l0 t212).f1)) ∧ w'.cell? ⟨gb214, 2, none⟩ = some (.int .i64 ((rd_T27 l0 t212).f2)) ∧ w'.cell? ⟨gb214, 3, none⟩ = some (.int .i64 ((rd_T27 l0 t212).f3)) ∧ w'.cell? (ad220.add ((t218).toNat * 4)) = some (.string ((rd_T27 t208 t218).f0)) ∧ w'.cell? ⟨(ad220.add ((t218).toNat * 4)).block, (ad220.add ((t218).toNat * 4)).off + 1, none⟩ = some (.int .i64 ((rd_T27 t208 t218).f1)) ∧ w'.cell? ⟨(ad220.add ((t218).toNat * 4)).block, (ad220.add ((t218).toNat * 4)).off + 2, none⟩ = some (.int .i64 ((rd_T27 t208 t218).f2)) ∧ w'.cell? ⟨(ad220.add ((t218).toNat * 4)).block, (ad220.add ((t218).toNat * 4)).off + 3, none⟩ = some (.int .i64 ((rd_T27 t208 t218).f3)) ∧ w'.cell? (ad220.add ((t218).toNat * 4)) = some (.string ((rd_T27 t208 t218).f0)) ∧ w'.cell? ⟨(ad220.add ((t218).toNat * 4)).block, (ad220.add ((t218).toNat * 4)).off + 1, none⟩ = some (.int .i64 ((rd_T27 t208 t218).f1)) ∧ w'.cell? ⟨(ad220.add ((t218).toNat * 4)).block, (ad220.add ((t218).toNat * 4)).off + 2, none⟩ = some (.int .i64 ((rd_T27 t208 t218).f2)) ∧ w'.cell? ⟨(ad220.add ((t218).toNat * 4)).block, (ad220.add ((t218).toNat * 4)).off + 3, none⟩ = some (.int .i64 ((rd_T27 t208 t218).f3))) (ds := []) x11tr37_0 (by kernel_rfl) rfl rfl ⟨(blk_cell BK214.out 0).trans rfl, (blk_cell BK214.out 1).trans rfl, (blk_cell BK214.out 2).trans rfl, (blk_cell BK214.out 3).trans rfl, hx220_0, hx220_1, hx220_2, hx220_3, hx222_0, hx222_1, hx222_2, hx222_3⟩ (fun hHeld => ?_); refine with_tabW cantonlaw14_MountsKeep.tab15 cantonlaw14_MountsKeep.bits15 (fun HT_ HW_ => ?_)
                 generalize wc.drew = w90 at HO_15 BK207 BK214 HB hx220_0 hx220_1 hx220_2 hx220_3 hx222_0 hx222_1 hx222_2 hx222_3 hHeld ⊢
                 refine pA_ 0 112 x11tr37_1 HT_.out ?_
                 refine pA_ 1 113 x11tr37_2 HT_.out ?_
                 refine pA_ 2 114 x11tr37_3 HT_.out ?_
                 refine pA_ 3 115 x11tr37_4 HT_.out ?_
                 refine pA_ 5 117 x11tr37_m1111010000000000000000000000000000000 HT_.out ?_
                 refine take_ (i := 4) (N := some 116) (v := ?_) (a' := ?_) x11tr37_6 rfl rfl (take_ofW HT_.out HW_.out (by kernel_rfl)) (fun _ _ _ h => h) (Or.inl ⟨by rfl, ?_⟩) hHeld ?_ ?_
                 rotate_left
                 ·rintro w' ⟨s0, s1, s2, s3, s4, s5, s6, s7, s8, s9, s10, s11⟩
                  go_simp
                  with_reducible rfl
                 rotate_left
                 ·simp only [Act.put, List.setIfInBounds_toArray, List.set_cons_zero, List.set_cons_succ, i64_w, i32_w]
                  rfl
                 refine take_ (i := 6) (N := some 118) (v := ?_) (a' := ?_) x11tr37_7 rfl rfl (take_ofW HT_.out HW_.out (by kernel_rfl)) (fun _ _ _ h => h) (Or.inl ⟨by rfl, ?_⟩) hHeld ?_ ?_
                 rotate_left
                 ·rintro w' ⟨s0, s1, s2, s3, s4, s5, s6, s7, s8, s9, s10, s11⟩
                  go_simp
                  with_reducible rfl
                 rotate_left
                 ·simp only [Act.put, List.setIfInBounds_toArray, List.set_cons_zero, List.set_cons_succ, i64_w, i32_w]
                  rfl
                 refine pA_ 7 119 x11tr37_8 HT_.out ?_
                 refine pA_ 8 120 x11tr37_9 HT_.out ?_
                 refine pA_ 9 121 x11tr37_10 HT_.out ?_
                 refine pA_ 11 123 x11tr37_m1111111111010000000000000000000000000 HT_.out ?_
                 refine take_ (i := 10) (N := some 122) (v := ?_) (a' := ?_) x11tr37_12 rfl rfl (take_ofW HT_.out HW_.out (by kernel_rfl)) (fun _ _ _ h => h) (Or.inl ⟨by rfl, ?_⟩) hHeld ?_ ?_
                 rotate_left
                 ·rintro w' ⟨s0, s1, s2, s3, s4, s5, s6, s7, s8, s9, s10, s11⟩
                  go_simp
                  with_reducible rfl
                 rotate_left
                 ·simp only [Act.put, List.setIfInBounds_toArray, List.set_cons_zero, List.set_cons_succ, i64_w, i32_w]
                  rfl
                 refine pA_ 12 124 x11tr37_13 HT_.out ?_
                 refine pA_ 13 125 x11tr37_14 HT_.out ?_
                 refine pA_ 14 126 x11tr37_15 HT_.out ?_
                 refine pA_ 15 127 x11tr37_16 HT_.out ?_
                 refine pA_ 16 128 x11tr37_17 HT_.out ?_
                 refine take_ (i := 17) (N := some 129) (v := ?_) (a' := ?_) x11tr37_18 rfl rfl (take_ofW HT_.out HW_.out (by kernel_rfl)) (fun _ _ _ h => h) (Or.inl ⟨by rfl, ?_⟩) hHeld ?_ ?_
                 rotate_left
                 ·rintro w' ⟨s0, s1, s2, s3, s4, s5, s6, s7, s8, s9, s10, s11⟩
                  go_simp
                  with_reducible rfl
                 rotate_left
                 ·simp only [Act.put, List.setIfInBounds_toArray, List.set_cons_zero, List.set_cons_succ, i64_w, i32_w]
                  rfl
                 refine take_ (i := 18) (N := some 130) (v := ?_) (a' := ?_) x11tr37_19 rfl rfl (take_ofW HT_.out HW_.out (by kernel_rfl)) (fun _ _ _ h => h) (Or.inl ⟨by rfl, ?_⟩) hHeld ?_ ?_
                 rotate_left
                 ·rintro w' ⟨s0, s1, s2, s3, s4, s5, s6, s7, s8, s9, s10, s11⟩
                  go_simp
                  with_reducible rfl
                 rotate_left
                 ·simp only [Act.put, List.setIfInBounds_toArray, List.set_cons_zero, List.set_cons_succ, i64_w, i32_w]
                  rfl
                 refine pA_ 19 131 x11tr37_20 HT_.out ?_
                 refine pA_ 20 132 x11tr37_21 HT_.out ?_
                 refine pA_ 21 133 x11tr37_22 HT_.out ?_
                 refine pA_ 22 134 x11tr37_23 HT_.out ?_
                 refine pA_ 23 135 x11tr37_24 HT_.out ?_
                 refine pA_ 25 137 x11tr37_m1111111111111111111111110100000000000 HT_.out ?_
                 refine take_ (i := 24) (N := some 136) (v := ?_) (a' := ?_) x11tr37_26 rfl rfl (take_ofW HT_.out HW_.out (by kernel_rfl)) (fun _ _ _ h => h) (Or.inl ⟨by rfl, ?_⟩) hHeld ?_ ?_
                 rotate_left
                 ·rintro w' ⟨s0, s1, s2, s3, s4, s5, s6, s7, s8, s9, s10, s11⟩
                  go_simp
                  with_reducible rfl
                 rotate_left
                 ·simp only [Act.put, List.setIfInBounds_toArray, List.set_cons_zero, List.set_cons_succ, i64_w, i32_w]
                  rfl
                 refine pA_ 26 138 x11tr37_27 HT_.out ?_
                 refine pA_ 27 139 x11tr37_28 HT_.out ?_
                 refine pU_ 28 140 x11tr37_29 HT_.out ?_
                 refine pU_ 29 141 x11tr37_30 HT_.out ?_
                 refine pU_ 30 142 x11tr37_31 HT_.out ?_
                 refine pU_ 31 143 x11tr37_32 HT_.out ?_
                 refine pU_ 32 144 x11tr37_33 HT_.out ?_
                 refine pU_ 33 145 x11tr37_34 HT_.out ?_
                 refine pU_ 34 146 x11tr37_35 HT_.out ?_
                 refine pA_ 35 147 x11tr37_36 HT_.out ?_
                 refine pA_ 36 148 x11tr37_37 HT_.out ?_
                 refine done_ (done_of HT_.out (by kernel_rfl)) ?_
                 try go_wp2
                 go_ret
                 exact ⟨by first | rfl | (simp [errW_none, errW_some] <;> rfl) | (simp [*, errW_none, errW_some] <;> rfl), by repeat (first | (with_reducible first | exact HB.out | apply below_alloc | apply pw_below_drewN | apply below_drew1 | refine below_set ?_ GE207.out | refine below_set ?_ GE214.out) | exact HB.out)⟩
              ·rw [if_neg c83] at H
               have c83b0 : (((rd_T27 t208 t218).f0).toList == ((rd_T27 l0 t212).f0).toList) = false := beq_eq_false_iff_ne.mpr c83
               have c83b1 : (((rd_T27 t208 t218).f0).toList != ((rd_T27 l0 t212).f0).toList) = true := bne_iff_ne.mpr c83
               obtain rfl := Option.some.inj H
               try go_wp2
               have n0_ := Aside0.mk (Kd.V_drew HO_15.out)
               have n1_ := Aside0.mk (blk_drew BK207.out)
               have n2_ := Aside0.mk (blk_drew BK214.out)
               have n3_ := Aside0.mk (below_drew1 HB.out)
               clear HO_15
               clear BK207
               clear BK214
               clear HB
               have HO_15 := n0_
               have BK207 := n1_
               have BK214 := n2_
               have HB := n3_
               clear n0_ n1_ n2_ n3_
               have p220 : 0 ≤ (t218 : Int) := of_decide_eq_true (by first | (with_reducible assumption) | assumption)
               have q220 : t218 < (t208.length : Int) := of_decide_eq_true (by first | (with_reducible assumption) | assumption)
               obtain ⟨ad220, e220, hx220_0, hx220_1, hx220_2, hx220_3⟩ := at_T27 (Kd.V_reads' HO_15.out).2.2 t218 p220 q220
               cases e220
               replace p220 := eq_true p220
               replace q220 := eq_true q220
               refine start_ (n := 37) (S := fun w' => w'.cell? ⟨gb214, 0, none⟩ = some (.string ((rd_T27 l0 t212).f0)) ∧ w'.cell? ⟨gb214, 1, none⟩ = some (.int .i64 ((rd_T27 l0 t212).f1)) ∧ w'.cell? ⟨gb214, 2, none⟩ = some (.int .i64 ((rd_T27 l0 t212).f2)) ∧ w'.cell? ⟨gb214, 3, none⟩ = some (.int .i64 ((rd_T27 l0 t212).f3)) ∧ w'.cell? (ad220.add ((t218).toNat * 4)) = some (.string ((rd_T27 t208 t218).f0)) ∧ w'.cell? ⟨(ad220.add ((t218).toNat * 4)).block, (ad220.add ((t218).toNat * 4)).off + 1, none⟩ = some (.int .i64 ((rd_T27 t208 t218).f1)) ∧ w'.cell? ⟨(ad220.add ((t218).toNat * 4)).block, (ad220.add ((t218).toNat * 4)).off + 2, none⟩ = some (.int .i64 ((rd_T27 t208 t218).f2)) ∧ w'.cell? ⟨(ad220.add ((t218).toNat * 4)).block, (ad220.add ((t218).toNat * 4)).off + 3, none⟩ = some (.int .i64 ((rd_T27 t208 t218).f3))) (ds := []) x11tr37_0 (by kernel_rfl) rfl rfl ⟨(blk_cell BK214.out 0).trans rfl, (blk_cell BK214.out 1).trans rfl, (blk_cell BK214.out 2).trans rfl, (blk_cell BK214.out 3).trans rfl, hx220_0, hx220_1, hx220_2, hx220_3⟩ (fun hHeld => ?_); refine with_tabW cantonlaw14_MountsKeep.tab15 cantonlaw14_MountsKeep.bits15 (fun HT_ HW_ => ?_)
               generalize wc.drew = w91 at HO_15 BK207 BK214 HB hx220_0 hx220_1 hx220_2 hx220_3 hHeld ⊢
               refine pA_ 0 112 x11tr37_1 HT_.out ?_
               refine pA_ 1 113 x11tr37_2 HT_.out ?_
               refine pA_ 2 114 x11tr37_3 HT_.out ?_
               refine pA_ 3 115 x11tr37_4 HT_.out ?_
               refine pA_ 5 117 x11tr37_m1111010000000000000000000000000000000 HT_.out ?_
               refine take_ (i := 4) (N := some 116) (v := ?_) (a' := ?_) x11tr37_6 rfl rfl (take_ofW HT_.out HW_.out (by kernel_rfl)) (fun _ _ _ h => h) (Or.inl ⟨by rfl, ?_⟩) hHeld ?_ ?_
               rotate_left
               ·rintro w' ⟨s0, s1, s2, s3, s4, s5, s6, s7⟩
                go_simp
                with_reducible rfl
               rotate_left
               ·simp only [Act.put, List.setIfInBounds_toArray, List.set_cons_zero, List.set_cons_succ, i64_w, i32_w]
                rfl
               refine take_ (i := 6) (N := some 118) (v := ?_) (a' := ?_) x11tr37_7 rfl rfl (take_ofW HT_.out HW_.out (by kernel_rfl)) (fun _ _ _ h => h) (Or.inl ⟨by rfl, ?_⟩) hHeld ?_ ?_
               rotate_left
               ·rintro w' ⟨s0, s1, s2, s3, s4, s5, s6, s7⟩
                go_simp
                with_reducible rfl
               rotate_left
               ·simp only [Act.put, List.setIfInBounds_toArray, List.set_cons_zero, List.set_cons_succ, i64_w, i32_w]
                rfl
               refine pA_ 7 119 x11tr37_8 HT_.out ?_
               refine pA_ 8 120 x11tr37_9 HT_.out ?_
               refine pU_ 9 121 x11tr37_10 HT_.out ?_
               refine pU_ 10 122 x11tr37_11 HT_.out ?_
               refine pU_ 11 123 x11tr37_12 HT_.out ?_
               refine pU_ 12 124 x11tr37_13 HT_.out ?_
               refine pU_ 13 125 x11tr37_14 HT_.out ?_
               refine pU_ 14 126 x11tr37_15 HT_.out ?_
               refine pU_ 15 127 x11tr37_16 HT_.out ?_
               refine pU_ 16 128 x11tr37_17 HT_.out ?_
               refine pU_ 17 129 x11tr37_18 HT_.out ?_
               refine pU_ 18 130 x11tr37_19 HT_.out ?_
               refine pU_ 19 131 x11tr37_20 HT_.out ?_
               refine pU_ 20 132 x11tr37_21 HT_.out ?_
               refine pA_ 21 133 x11tr37_22 HT_.out ?_
               refine pA_ 22 134 x11tr37_23 HT_.out ?_
               refine pU_ 23 135 x11tr37_24 HT_.out ?_
               refine pU_ 24 136 x11tr37_25 HT_.out ?_
               refine pU_ 25 137 x11tr37_26 HT_.out ?_
               refine pU_ 26 138 x11tr37_27 HT_.out ?_
               refine pU_ 27 139 x11tr37_28 HT_.out ?_
               refine pU_ 28 140 x11tr37_29 HT_.out ?_
               refine pU_ 29 141 x11tr37_30 HT_.out ?_
               refine pU_ 30 142 x11tr37_31 HT_.out ?_
               refine pU_ 31 143 x11tr37_32 HT_.out ?_
               refine pU_ 32 144 x11tr37_33 HT_.out ?_
               refine pU_ 33 145 x11tr37_34 HT_.out ?_
               refine pU_ 34 146 x11tr37_35 HT_.out ?_
               refine pU_ 35 147 x11tr37_36 HT_.out ?_
               refine pA_ 36 148 x11tr37_37 HT_.out ?_
               refine done_ (done_of HT_.out (by kernel_rfl)) ?_
               try go_wp2
               go_ret
               exact ⟨by first | rfl | (simp [errW_none, errW_some] <;> rfl) | (simp [*, errW_none, errW_some] <;> rfl), by repeat (first | (with_reducible first | exact HB.out | apply below_alloc | apply pw_below_drewN | apply below_drew1 | refine below_set ?_ GE207.out | refine below_set ?_ GE214.out) | exact HB.out)⟩
             ·rw [if_neg c82] at H
              exact absurd H (by simp)
            ·rw [if_neg c81] at H
             exact absurd H (by simp)
        ·rw [if_neg c69] at H
         have c69b0 : (t211 == 0) = false := beq_eq_false_iff_ne.mpr c69
         have c69b1 : (t211 != 0) = true := bne_iff_ne.mpr c69
         obtain rfl := Option.some.inj H
         go_wp2
         go_ret
         exact ⟨by first | rfl | (simp [errW_none, errW_some] <;> rfl) | (simp [*, errW_none, errW_some] <;> rfl), by repeat (first | (with_reducible first | exact HB.out | apply below_alloc | apply pw_below_drewN | apply below_drew1 | refine below_set ?_ GE207.out | refine below_set ?_ GE214.out) | exact HB.out)⟩
     ·rw [if_neg c29] at H
      exact absurd H (by simp)
    ·rw [if_neg c28] at H
     exact absurd H (by simp)

end Go.Proofs.Ytpkaedpgpncgpaa.Q
