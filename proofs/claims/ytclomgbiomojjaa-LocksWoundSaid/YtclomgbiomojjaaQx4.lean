-- Written by a program of this session (xprint) out of the translation; over contracts proved by hand.
import Derived.Test.YtclomgbiomojjaaQx0
import Derived.Test.YtclomgbiomojjaaSq
import Derived.Test.YtclomgbiomojjaaQx3
namespace Go.Proofs.Ytclomgbiomojjaa.LDir2
end Go.Proofs.Ytclomgbiomojjaa.LDir2
namespace Go.Proofs.Ytclomgbiomojjaa.LFree
end Go.Proofs.Ytclomgbiomojjaa.LFree
namespace Go.Proofs.Ytclomgbiomojjaa.LHeld
end Go.Proofs.Ytclomgbiomojjaa.LHeld
namespace Go.Proofs.Ytclomgbiomojjaa.LRgt
end Go.Proofs.Ytclomgbiomojjaa.LRgt
namespace Go.Proofs.Ytclomgbiomojjaa.LTake
end Go.Proofs.Ytclomgbiomojjaa.LTake
namespace Go.Proofs.Ytclomgbiomojjaa.New
end Go.Proofs.Ytclomgbiomojjaa.New
namespace Go.Proofs.Ytclomgbiomojjaa.Split
end Go.Proofs.Ytclomgbiomojjaa.Split
namespace Go.Proofs.Ytclomgbiomojjaa.Q
open Go.Proofs.Ytclomgbiomojjaa.LDir2 Go.Proofs.Ytclomgbiomojjaa.LFree Go.Proofs.Ytclomgbiomojjaa.LHeld Go.Proofs.Ytclomgbiomojjaa.LRgt Go.Proofs.Ytclomgbiomojjaa.LTake Go.Proofs.Ytclomgbiomojjaa.New Go.Proofs.Ytclomgbiomojjaa.Split
set_option linter.unnecessarySimpa false
open Go.RowKit Go.Proofs.YtclomgbiomojjaaW.PrintWords Go.Proofs.YtclomgbiomojjaaW.PrintLast Go.Proofs.YtclomgbiomojjaaW.PrintMore
attribute [local go_sem] max2_int min2_int max_two min_two max_three min_three max_four min_four   -- for this text's walks alone
set_option linter.unusedVariables false
set_option linter.unusedSimpArgs false

abbrev x4tr24_0 : Array Bool := #[false, false, false, false, false, false, false, false, false, false, false, false, false, false, false, false, false, false, false, false, false, false, false, false]
abbrev x4tr24_1 : Array Bool := #[true, false, false, false, false, false, false, false, false, false, false, false, false, false, false, false, false, false, false, false, false, false, false, false]
abbrev x4tr24_10 : Array Bool := #[true, true, true, true, true, true, true, true, true, true, false, false, false, false, false, false, false, false, false, false, false, false, false, false]
abbrev x4tr24_11 : Array Bool := #[true, true, true, true, true, true, true, true, true, true, true, false, false, false, false, false, false, false, false, false, false, false, false, false]
abbrev x4tr24_12 : Array Bool := #[true, true, true, true, true, true, true, true, true, true, true, true, false, false, false, false, false, false, false, false, false, false, false, false]
abbrev x4tr24_13 : Array Bool := #[true, true, true, true, true, true, true, true, true, true, true, true, true, false, false, false, false, false, false, false, false, false, false, false]
abbrev x4tr24_14 : Array Bool := #[true, true, true, true, true, true, true, true, true, true, true, true, true, true, false, false, false, false, false, false, false, false, false, false]
abbrev x4tr24_15 : Array Bool := #[true, true, true, true, true, true, true, true, true, true, true, true, true, true, true, false, false, false, false, false, false, false, false, false]
abbrev x4tr24_16 : Array Bool := #[true, true, true, true, true, true, true, true, true, true, true, true, true, true, true, true, false, false, false, false, false, false, false, false]
abbrev x4tr24_17 : Array Bool := #[true, true, true, true, true, true, true, true, true, true, true, true, true, true, true, true, true, false, false, false, false, false, false, false]
abbrev x4tr24_18 : Array Bool := #[true, true, true, true, true, true, true, true, true, true, true, true, true, true, true, true, true, true, false, false, false, false, false, false]
abbrev x4tr24_19 : Array Bool := #[true, true, true, true, true, true, true, true, true, true, true, true, true, true, true, true, true, true, true, false, false, false, false, false]
abbrev x4tr24_2 : Array Bool := #[true, true, false, false, false, false, false, false, false, false, false, false, false, false, false, false, false, false, false, false, false, false, false, false]
abbrev x4tr24_20 : Array Bool := #[true, true, true, true, true, true, true, true, true, true, true, true, true, true, true, true, true, true, true, true, false, false, false, false]
abbrev x4tr24_21 : Array Bool := #[true, true, true, true, true, true, true, true, true, true, true, true, true, true, true, true, true, true, true, true, true, false, false, false]
abbrev x4tr24_22 : Array Bool := #[true, true, true, true, true, true, true, true, true, true, true, true, true, true, true, true, true, true, true, true, true, true, false, false]
abbrev x4tr24_23 : Array Bool := #[true, true, true, true, true, true, true, true, true, true, true, true, true, true, true, true, true, true, true, true, true, true, true, false]
abbrev x4tr24_24 : Array Bool := #[true, true, true, true, true, true, true, true, true, true, true, true, true, true, true, true, true, true, true, true, true, true, true, true]
abbrev x4tr24_3 : Array Bool := #[true, true, true, false, false, false, false, false, false, false, false, false, false, false, false, false, false, false, false, false, false, false, false, false]
abbrev x4tr24_4 : Array Bool := #[true, true, true, true, false, false, false, false, false, false, false, false, false, false, false, false, false, false, false, false, false, false, false, false]
abbrev x4tr24_9 : Array Bool := #[true, true, true, true, true, true, true, true, true, false, false, false, false, false, false, false, false, false, false, false, false, false, false, false]
abbrev x4tr24_m111101000000000000000000 : Array Bool := #[true, true, true, true, false, true, false, false, false, false, false, false, false, false, false, false, false, false, false, false, false, false, false, false]
abbrev x4tr24_m111101100000000000000000 : Array Bool := #[true, true, true, true, false, true, true, false, false, false, false, false, false, false, false, false, false, false, false, false, false, false, false, false]
abbrev x4tr24_m111101110000000000000000 : Array Bool := #[true, true, true, true, false, true, true, true, false, false, false, false, false, false, false, false, false, false, false, false, false, false, false, false]
abbrev x4tr24_m111101111000000000000000 : Array Bool := #[true, true, true, true, false, true, true, true, true, false, false, false, false, false, false, false, false, false, false, false, false, false, false, false]
abbrev x4tr24_m111111111111111101000000 : Array Bool := #[true, true, true, true, true, true, true, true, true, true, true, true, true, true, true, true, false, true, false, false, false, false, false, false]
abbrev x4tr24_m111111111111111101100000 : Array Bool := #[true, true, true, true, true, true, true, true, true, true, true, true, true, true, true, true, false, true, true, false, false, false, false, false]
abbrev x4tr24_m111111111111111101110000 : Array Bool := #[true, true, true, true, true, true, true, true, true, true, true, true, true, true, true, true, false, true, true, true, false, false, false, false]
abbrev x4tr24_m111111111111111101111000 : Array Bool := #[true, true, true, true, true, true, true, true, true, true, true, true, true, true, true, true, false, true, true, true, true, false, false, false]
abbrev x4tr43_0 : Array Bool := #[false, false, false, false, false, false, false, false, false, false, false, false, false, false, false, false, false, false, false, false, false, false, false, false, false, false, false, false, false, false, false, false, false, false, false, false, false, false, false, false, false, false, false]
abbrev x4tr43_1 : Array Bool := #[true, false, false, false, false, false, false, false, false, false, false, false, false, false, false, false, false, false, false, false, false, false, false, false, false, false, false, false, false, false, false, false, false, false, false, false, false, false, false, false, false, false, false]
abbrev x4tr43_10 : Array Bool := #[true, true, true, true, true, true, true, true, true, true, false, false, false, false, false, false, false, false, false, false, false, false, false, false, false, false, false, false, false, false, false, false, false, false, false, false, false, false, false, false, false, false, false]
abbrev x4tr43_11 : Array Bool := #[true, true, true, true, true, true, true, true, true, true, true, false, false, false, false, false, false, false, false, false, false, false, false, false, false, false, false, false, false, false, false, false, false, false, false, false, false, false, false, false, false, false, false]
abbrev x4tr43_12 : Array Bool := #[true, true, true, true, true, true, true, true, true, true, true, true, false, false, false, false, false, false, false, false, false, false, false, false, false, false, false, false, false, false, false, false, false, false, false, false, false, false, false, false, false, false, false]
abbrev x4tr43_13 : Array Bool := #[true, true, true, true, true, true, true, true, true, true, true, true, true, false, false, false, false, false, false, false, false, false, false, false, false, false, false, false, false, false, false, false, false, false, false, false, false, false, false, false, false, false, false]
abbrev x4tr43_14 : Array Bool := #[true, true, true, true, true, true, true, true, true, true, true, true, true, true, false, false, false, false, false, false, false, false, false, false, false, false, false, false, false, false, false, false, false, false, false, false, false, false, false, false, false, false, false]
abbrev x4tr43_15 : Array Bool := #[true, true, true, true, true, true, true, true, true, true, true, true, true, true, true, false, false, false, false, false, false, false, false, false, false, false, false, false, false, false, false, false, false, false, false, false, false, false, false, false, false, false, false]
abbrev x4tr43_16 : Array Bool := #[true, true, true, true, true, true, true, true, true, true, true, true, true, true, true, true, false, false, false, false, false, false, false, false, false, false, false, false, false, false, false, false, false, false, false, false, false, false, false, false, false, false, false]
abbrev x4tr43_17 : Array Bool := #[true, true, true, true, true, true, true, true, true, true, true, true, true, true, true, true, true, false, false, false, false, false, false, false, false, false, false, false, false, false, false, false, false, false, false, false, false, false, false, false, false, false, false]
abbrev x4tr43_18 : Array Bool := #[true, true, true, true, true, true, true, true, true, true, true, true, true, true, true, true, true, true, false, false, false, false, false, false, false, false, false, false, false, false, false, false, false, false, false, false, false, false, false, false, false, false, false]
abbrev x4tr43_19 : Array Bool := #[true, true, true, true, true, true, true, true, true, true, true, true, true, true, true, true, true, true, true, false, false, false, false, false, false, false, false, false, false, false, false, false, false, false, false, false, false, false, false, false, false, false, false]
abbrev x4tr43_2 : Array Bool := #[true, true, false, false, false, false, false, false, false, false, false, false, false, false, false, false, false, false, false, false, false, false, false, false, false, false, false, false, false, false, false, false, false, false, false, false, false, false, false, false, false, false, false]
abbrev x4tr43_20 : Array Bool := #[true, true, true, true, true, true, true, true, true, true, true, true, true, true, true, true, true, true, true, true, false, false, false, false, false, false, false, false, false, false, false, false, false, false, false, false, false, false, false, false, false, false, false]
abbrev x4tr43_21 : Array Bool := #[true, true, true, true, true, true, true, true, true, true, true, true, true, true, true, true, true, true, true, true, true, false, false, false, false, false, false, false, false, false, false, false, false, false, false, false, false, false, false, false, false, false, false]
abbrev x4tr43_22 : Array Bool := #[true, true, true, true, true, true, true, true, true, true, true, true, true, true, true, true, true, true, true, true, true, true, false, false, false, false, false, false, false, false, false, false, false, false, false, false, false, false, false, false, false, false, false]
abbrev x4tr43_23 : Array Bool := #[true, true, true, true, true, true, true, true, true, true, true, true, true, true, true, true, true, true, true, true, true, true, true, false, false, false, false, false, false, false, false, false, false, false, false, false, false, false, false, false, false, false, false]
abbrev x4tr43_24 : Array Bool := #[true, true, true, true, true, true, true, true, true, true, true, true, true, true, true, true, true, true, true, true, true, true, true, true, false, false, false, false, false, false, false, false, false, false, false, false, false, false, false, false, false, false, false]
abbrev x4tr43_25 : Array Bool := #[true, true, true, true, true, true, true, true, true, true, true, true, true, true, true, true, true, true, true, true, true, true, true, true, true, false, false, false, false, false, false, false, false, false, false, false, false, false, false, false, false, false, false]
abbrev x4tr43_26 : Array Bool := #[true, true, true, true, true, true, true, true, true, true, true, true, true, true, true, true, true, true, true, true, true, true, true, true, true, true, false, false, false, false, false, false, false, false, false, false, false, false, false, false, false, false, false]
abbrev x4tr43_27 : Array Bool := #[true, true, true, true, true, true, true, true, true, true, true, true, true, true, true, true, true, true, true, true, true, true, true, true, true, true, true, false, false, false, false, false, false, false, false, false, false, false, false, false, false, false, false]
abbrev x4tr43_28 : Array Bool := #[true, true, true, true, true, true, true, true, true, true, true, true, true, true, true, true, true, true, true, true, true, true, true, true, true, true, true, true, false, false, false, false, false, false, false, false, false, false, false, false, false, false, false]
abbrev x4tr43_29 : Array Bool := #[true, true, true, true, true, true, true, true, true, true, true, true, true, true, true, true, true, true, true, true, true, true, true, true, true, true, true, true, true, false, false, false, false, false, false, false, false, false, false, false, false, false, false]
abbrev x4tr43_3 : Array Bool := #[true, true, true, false, false, false, false, false, false, false, false, false, false, false, false, false, false, false, false, false, false, false, false, false, false, false, false, false, false, false, false, false, false, false, false, false, false, false, false, false, false, false, false]
abbrev x4tr43_30 : Array Bool := #[true, true, true, true, true, true, true, true, true, true, true, true, true, true, true, true, true, true, true, true, true, true, true, true, true, true, true, true, true, true, false, false, false, false, false, false, false, false, false, false, false, false, false]
abbrev x4tr43_31 : Array Bool := #[true, true, true, true, true, true, true, true, true, true, true, true, true, true, true, true, true, true, true, true, true, true, true, true, true, true, true, true, true, true, true, false, false, false, false, false, false, false, false, false, false, false, false]
abbrev x4tr43_32 : Array Bool := #[true, true, true, true, true, true, true, true, true, true, true, true, true, true, true, true, true, true, true, true, true, true, true, true, true, true, true, true, true, true, true, true, false, false, false, false, false, false, false, false, false, false, false]
abbrev x4tr43_33 : Array Bool := #[true, true, true, true, true, true, true, true, true, true, true, true, true, true, true, true, true, true, true, true, true, true, true, true, true, true, true, true, true, true, true, true, true, false, false, false, false, false, false, false, false, false, false]
abbrev x4tr43_34 : Array Bool := #[true, true, true, true, true, true, true, true, true, true, true, true, true, true, true, true, true, true, true, true, true, true, true, true, true, true, true, true, true, true, true, true, true, true, false, false, false, false, false, false, false, false, false]
abbrev x4tr43_35 : Array Bool := #[true, true, true, true, true, true, true, true, true, true, true, true, true, true, true, true, true, true, true, true, true, true, true, true, true, true, true, true, true, true, true, true, true, true, true, false, false, false, false, false, false, false, false]
abbrev x4tr43_36 : Array Bool := #[true, true, true, true, true, true, true, true, true, true, true, true, true, true, true, true, true, true, true, true, true, true, true, true, true, true, true, true, true, true, true, true, true, true, true, true, false, false, false, false, false, false, false]
abbrev x4tr43_37 : Array Bool := #[true, true, true, true, true, true, true, true, true, true, true, true, true, true, true, true, true, true, true, true, true, true, true, true, true, true, true, true, true, true, true, true, true, true, true, true, true, false, false, false, false, false, false]
abbrev x4tr43_38 : Array Bool := #[true, true, true, true, true, true, true, true, true, true, true, true, true, true, true, true, true, true, true, true, true, true, true, true, true, true, true, true, true, true, true, true, true, true, true, true, true, true, false, false, false, false, false]
abbrev x4tr43_39 : Array Bool := #[true, true, true, true, true, true, true, true, true, true, true, true, true, true, true, true, true, true, true, true, true, true, true, true, true, true, true, true, true, true, true, true, true, true, true, true, true, true, true, false, false, false, false]
abbrev x4tr43_4 : Array Bool := #[true, true, true, true, false, false, false, false, false, false, false, false, false, false, false, false, false, false, false, false, false, false, false, false, false, false, false, false, false, false, false, false, false, false, false, false, false, false, false, false, false, false, false]
abbrev x4tr43_40 : Array Bool := #[true, true, true, true, true, true, true, true, true, true, true, true, true, true, true, true, true, true, true, true, true, true, true, true, true, true, true, true, true, true, true, true, true, true, true, true, true, true, true, true, false, false, false]
abbrev x4tr43_41 : Array Bool := #[true, true, true, true, true, true, true, true, true, true, true, true, true, true, true, true, true, true, true, true, true, true, true, true, true, true, true, true, true, true, true, true, true, true, true, true, true, true, true, true, true, false, false]
abbrev x4tr43_42 : Array Bool := #[true, true, true, true, true, true, true, true, true, true, true, true, true, true, true, true, true, true, true, true, true, true, true, true, true, true, true, true, true, true, true, true, true, true, true, true, true, true, true, true, true, true, false]
abbrev x4tr43_43 : Array Bool := #[true, true, true, true, true, true, true, true, true, true, true, true, true, true, true, true, true, true, true, true, true, true, true, true, true, true, true, true, true, true, true, true, true, true, true, true, true, true, true, true, true, true, true]
abbrev x4tr43_5 : Array Bool := #[true, true, true, true, true, false, false, false, false, false, false, false, false, false, false, false, false, false, false, false, false, false, false, false, false, false, false, false, false, false, false, false, false, false, false, false, false, false, false, false, false, false, false]
abbrev x4tr43_6 : Array Bool := #[true, true, true, true, true, true, false, false, false, false, false, false, false, false, false, false, false, false, false, false, false, false, false, false, false, false, false, false, false, false, false, false, false, false, false, false, false, false, false, false, false, false, false]
abbrev x4tr43_7 : Array Bool := #[true, true, true, true, true, true, true, false, false, false, false, false, false, false, false, false, false, false, false, false, false, false, false, false, false, false, false, false, false, false, false, false, false, false, false, false, false, false, false, false, false, false, false]
abbrev x4tr43_8 : Array Bool := #[true, true, true, true, true, true, true, true, false, false, false, false, false, false, false, false, false, false, false, false, false, false, false, false, false, false, false, false, false, false, false, false, false, false, false, false, false, false, false, false, false, false, false]
abbrev x4tr43_9 : Array Bool := #[true, true, true, true, true, true, true, true, true, false, false, false, false, false, false, false, false, false, false, false, false, false, false, false, false, false, false, false, false, false, false, false, false, false, false, false, false, false, false, false, false, false, false]
abbrev x4tr43_m1111111111111111111111111111111111010000000 : Array Bool := #[true, true, true, true, true, true, true, true, true, true, true, true, true, true, true, true, true, true, true, true, true, true, true, true, true, true, true, true, true, true, true, true, true, true, false, true, false, false, false, false, false, false, false]
abbrev x4tr43_m1111111111111111111111111111111111011000000 : Array Bool := #[true, true, true, true, true, true, true, true, true, true, true, true, true, true, true, true, true, true, true, true, true, true, true, true, true, true, true, true, true, true, true, true, true, true, false, true, true, false, false, false, false, false, false]
abbrev x4tr43_m1111111111111111111111111111111111011100000 : Array Bool := #[true, true, true, true, true, true, true, true, true, true, true, true, true, true, true, true, true, true, true, true, true, true, true, true, true, true, true, true, true, true, true, true, true, true, false, true, true, true, false, false, false, false, false]
abbrev x4tr43_m1111111111111111111111111111111111011110000 : Array Bool := #[true, true, true, true, true, true, true, true, true, true, true, true, true, true, true, true, true, true, true, true, true, true, true, true, true, true, true, true, true, true, true, true, true, true, false, true, true, true, true, false, false, false, false]
/-! ### cantonref10_Right: function 10 -/
mutual
def cantonref10_Right.l0 : Nat → List (S34) → Int → Option (Bool)
 | 0, _, _ => none
 | k + 1, x0, x3 => if x3 < (x0.length : Int) then (if 0 ≤ x3 then ((cantonref01_Right.f k ((rd_T34 x0 x3).f0)).bind fun t162 => (if t162 = true then ((cantonref10_number.f ((rd_T34 x0 x3).f1)).bind fun t164 => (if t164 = true then ((cantonref10_number.f ((rd_T34 x0 x3).f2)).bind fun t166 => (if t166 = true then (if x3 > 0 then (if 0 ≤ (wrap64 (x3 - 1)) then (if (wrap64 (x3 - 1)) < (x0.length : Int) then (cantonref10_Right.j1 k x0 x3 (!(Op.bytesLess (((rd_T34 x0 (wrap64 (x3 - 1))).f0).toList) (((rd_T34 x0 x3).f0).toList)))) else (none)) else (none)) else (cantonref10_Right.j1 k x0 x3 false)) else (cantonref10_Right.j1 k x0 x3 true))) else (cantonref10_Right.j1 k x0 x3 true))) else (cantonref10_Right.j1 k x0 x3 true))) else (none)) else (some true)
def cantonref10_Right.j1 : Nat → List (S34) → Int → Bool → Option (Bool)
 | 0, _, _, _ => none
 | k + 1, x0, x3, x53 => if x53 = true then (some false) else (cantonref10_Right.l1 k x0 x3 0)
def cantonref10_Right.l1 : Nat → List (S34) → Int → Int → Option (Bool)
 | 0, _, _, _ => none
 | k + 1, x0, x3, x4 => if x4 < x3 then (if 0 ≤ x4 then (if x4 < (x0.length : Int) then (if 0 ≤ x3 then (if x3 < (x0.length : Int) then (if ((rd_T34 x0 x4).f1) = ((rd_T34 x0 x3).f1) then (if ((rd_T34 x0 x4).f2) = ((rd_T34 x0 x3).f2) then (cantonref10_Right.l1 k x0 x3 (wrap64 (x4 + 1))) else (some false)) else (cantonref10_Right.l1 k x0 x3 (wrap64 (x4 + 1)))) else (none)) else (none)) else (none)) else (none)) else (cantonref10_Right.l0 k x0 (wrap64 (x3 + 1)))
end
def cantonref10_Right.f (k : Nat) (l0 : List (S34)) : Option (Bool) := cantonref10_Right.l0 k l0 0
theorem cantonref10_Right.mono_l : ∀ k, (∀ y0 y1, LeO (cantonref10_Right.l0 k y0 y1) (cantonref10_Right.l0 (k + 1) y0 y1)) ∧ (∀ y0 y1 y2, LeO (cantonref10_Right.j1 k y0 y1 y2) (cantonref10_Right.j1 (k + 1) y0 y1 y2)) ∧ (∀ y0 y1 y2, LeO (cantonref10_Right.l1 k y0 y1 y2) (cantonref10_Right.l1 (k + 1) y0 y1 y2))
 | 0 => ⟨fun _ _ r h => by simp [cantonref10_Right.l0] at h, fun _ _ _ r h => by simp [cantonref10_Right.j1] at h, fun _ _ _ r h => by simp [cantonref10_Right.l1] at h⟩
 | k + 1 => by
  obtain ⟨ih0, ih1, ih2⟩ := cantonref10_Right.mono_l k
  refine ⟨?_, ?_, ?_⟩
  ·intro y0 y1
   unfold cantonref10_Right.l0
   repeat' first
   | (with_reducible exact ih0 _ _)
   | (with_reducible exact ih1 _ _ _)
   | (with_reducible exact ih2 _ _ _)
   | (with_reducible exact cantonref01_Right.mono _ _)
   | (with_reducible exact LeO.refl _)
   | (with_reducible exact LeO.none _)
   | (with_reducible refine LeO.ite ?_ ?_)
   | (with_reducible refine LeO.bind ?_ (fun _ => ?_))
   | exact ih0 _ _
   | exact ih1 _ _ _
   | exact ih2 _ _ _
   | exact cantonref01_Right.mono _ _
   | exact LeO.none _
   | refine LeO.ite ?_ ?_
   | refine LeO.bind ?_ (fun _ => ?_)
  ·intro y0 y1 y2
   unfold cantonref10_Right.j1
   repeat' first
   | (with_reducible exact ih0 _ _)
   | (with_reducible exact ih1 _ _ _)
   | (with_reducible exact ih2 _ _ _)
   | (with_reducible exact cantonref01_Right.mono _ _)
   | (with_reducible exact LeO.refl _)
   | (with_reducible exact LeO.none _)
   | (with_reducible refine LeO.ite ?_ ?_)
   | (with_reducible refine LeO.bind ?_ (fun _ => ?_))
   | exact ih0 _ _
   | exact ih1 _ _ _
   | exact ih2 _ _ _
   | exact cantonref01_Right.mono _ _
   | exact LeO.none _
   | refine LeO.ite ?_ ?_
   | refine LeO.bind ?_ (fun _ => ?_)
  ·intro y0 y1 y2
   unfold cantonref10_Right.l1
   repeat' first
   | (with_reducible exact ih0 _ _)
   | (with_reducible exact ih1 _ _ _)
   | (with_reducible exact ih2 _ _ _)
   | (with_reducible exact cantonref01_Right.mono _ _)
   | (with_reducible exact LeO.refl _)
   | (with_reducible exact LeO.none _)
   | (with_reducible refine LeO.ite ?_ ?_)
   | (with_reducible refine LeO.bind ?_ (fun _ => ?_))
   | exact ih0 _ _
   | exact ih1 _ _ _
   | exact ih2 _ _ _
   | exact cantonref01_Right.mono _ _
   | exact LeO.none _
   | refine LeO.ite ?_ ?_
   | refine LeO.bind ?_ (fun _ => ?_)
theorem cantonref10_Right.mono : ∀ a0 k, LeO (cantonref10_Right.f k a0) (cantonref10_Right.f (k + 1) a0) := by
 intro a0 k
 obtain ⟨ih0, ih1, ih2⟩ := cantonref10_Right.mono_l k
 unfold cantonref10_Right.f
 repeat' first
   | (with_reducible exact ih0 _ _)
   | (with_reducible exact ih1 _ _ _)
   | (with_reducible exact ih2 _ _ _)
   | (with_reducible exact cantonref01_Right.mono _ _)
   | (with_reducible exact LeO.refl _)
   | (with_reducible exact LeO.none _)
   | (with_reducible refine LeO.ite ?_ ?_)
   | (with_reducible refine LeO.bind ?_ (fun _ => ?_))
   | exact ih0 _ _
   | exact ih1 _ _ _
   | exact ih2 _ _ _
   | exact cantonref01_Right.mono _ _
   | exact LeO.none _
   | refine LeO.ite ?_ ?_
   | refine LeO.bind ?_ (fun _ => ?_)
def cantonref10_Right.T4 : Bool × List (List Nat × List Nat) := (true, [([], []), ([], []), ([0, 1], [0, 1]), ([2], [2]), ([3], [3]), ([4], [4]), ([5], [5]), ([6, 5], [6]), ([7], [7]), ([7], [7]), ([8, 9, 7], [7, 8, 9]), ([10, 7], [7, 10]), ([11, 7], [7, 11]), ([12, 7, 7], [7, 12]), ([13, 7], [7, 13]), ([7, 14], [7, 14]), ([15, 13], [15]), ([16], [16]), ([16], [16]), ([17, 18, 16], [16, 17, 18]), ([19, 16], [16, 19]), ([20, 16], [16, 20]), ([21, 16, 16], [16, 21]), ([22, 16], [16, 22]), ([16, 23], [16, 23]), ([24, 22], [24]), ([25], [25]), ([26, 25], [25, 26]), ([27, 25, 25], [25, 27]), ([28], [28]), ([28], [28]), ([30, 28], [28, 30]), ([29, 31, 28], [28, 29, 31]), ([32, 28], [28, 32]), ([33, 28], [28, 33]), ([28], [28]), ([28], [28]), ([35, 36, 28], [28, 35, 36]), ([37, 28], [28, 37]), ([38, 28], [28, 38]), ([34, 39, 28], [28, 34, 39]), ([28, 40, 25], [25, 28, 40]), ([25, 41], [25, 41])])
def cantonref10_Right.B4 : List Nat := [0, 0, 3, 7, 15, 31, 63, 127, 255, 255, 1023, 2047, 4095, 8191, 16383, 32767, 65535, 131071, 131071, 524287, 1048575, 2097151, 4194303, 8388607, 16777215, 33554431, 67108863, 134217727, 268435455, 536870911, 536870911, 1610612735, 4294967295, 8589934591, 17179869183, 536870911, 536870911, 103616086015, 241055039487, 515932946431, 1099511627775, 2199023255551, 4398046511103]
theorem cantonref10_Right.tab4 : rtab .any (opsOf Try.f10 4) = cantonref10_Right.T4 := by kernel_rfl
theorem cantonref10_Right.bits4 : waitsOk cantonref10_Right.T4.2 cantonref10_Right.B4 = true := by kernel_rfl
def cantonref10_Right.T9 : Bool × List (List Nat × List Nat) := (true, [([], []), ([], []), ([0, 1], [0, 1]), ([2], [2]), ([3], [3]), ([], []), ([], []), ([5, 6], [5, 6]), ([7], [7]), ([8], [8]), ([4, 9], [4, 9]), ([10], [10]), ([11], [11]), ([11], [11]), ([12, 13, 11], [11, 12, 13]), ([14, 11], [11, 14]), ([15, 11], [11, 15]), ([11], [11]), ([11], [11]), ([17, 18, 11], [11, 17, 18]), ([19, 11], [11, 19]), ([20, 11], [11, 20]), ([16, 21, 11], [11, 16, 21]), ([11, 22], [11, 22])])
def cantonref10_Right.B9 : List Nat := [0, 0, 3, 7, 15, 0, 0, 96, 224, 480, 1023, 2047, 4095, 4095, 16383, 32767, 65535, 4095, 4095, 397311, 921599, 1970175, 4194303, 8388607]
theorem cantonref10_Right.tab9 : rtab .any (opsOf Try.f10 9) = cantonref10_Right.T9 := by kernel_rfl
theorem cantonref10_Right.bits9 : waitsOk cantonref10_Right.T9.2 cantonref10_Right.B9 = true := by kernel_rfl
set_option maxHeartbeats 8000000 in
set_option maxRecDepth 100000 in
theorem cantonref10_Right.calls (k : Nat) (A0 : Option Addr) (c0 : Nat) (l0 : List (S34)) (r : Bool) (w : World) (hr0 : Kd.C k34 w A0 l0.length l0) (hc0 : l0.length ≤ c0) (h : cantonref10_Right.f k l0 = some r) :
  Calls Try.prog 10 #[.slice A0 l0.length c0] w fun e w' => e = .returned (.bool r) ∧ Below w.heap.size w w' := by
 have HR0 := Aside0.mk hr0
 have HC0 := Aside0.mk hc0
 clear hr0 hc0
 have HB := Aside0.mk (Below.refl w.heap.size w)
 have H : (cantonref10_Right.l0 k l0 0) = some r := h
 clear h
 have H' := Aside0.mk H
 clear H
 go_enter Try.func10, Try.ntmps10
 go_wp2
 go_loopg [3] k (fun kq v3 w' => ∃ (x3_1 : Int), v3 = .int .i64 x3_1 ∧ Aside0 (cantonref10_Right.l0 kq l0 x3_1 = some r) ∧ Aside0 (kq ≤ k) ∧ Aside0 (Below w.heap.size w w'))
 case atStart => exact ⟨(0), (by first | rfl | (simp; done) | (simp [*]; done)), H', ⟨Nat.le_refl _⟩, ⟨kZ HB⟩⟩
 case round =>
  clear H'
  try clear c1
  obtain ⟨x3_1, rfl, HA, HK1, HB⟩ := hrel
  cases gk with
  | zero => exact absurd HA.out (by simp [cantonref10_Right.l0])
  | succ k1 =>
   have H := HA.out
   clear HA
   simp only [cantonref10_Right.l0] at H
   by_cases c2 : x3_1 < (l0.length : Int)
   ·rw [if_pos c2] at H
    have c2b0 : decide (x3_1 < (l0.length : Int)) = true := decide_eq_true c2
    clear c2
    have HC3 := Aside0.mk H
    clear H
    go_upto_region 4 with (fail)
    go_cut [53] (fun v53 wc => ∃ (kq : Nat) (x53_2 : Bool), v53 = .bool x53_2 ∧ Aside0 (cantonref10_Right.j1 kq l0 x3_1 x53_2 = some r) ∧ Aside0 (kq ≤ k1) ∧ Aside0 (Below w.heap.size w wc))
    case first =>
     have H := HC3.out
     clear HC3
     by_cases c4 : 0 ≤ x3_1
     ·rw [if_pos c4] at H
      have c4b0 : decide (0 ≤ x3_1) = true := decide_eq_true c4
      clear c4
      (first | rw [c4b0] | (simp only [i64_w, i32_w]; rw [c4b0]) | skip)
      replace H := Option.bind_eq_some_iff.mp H
      obtain ⟨t162, A50, H⟩ := H
      replace H : (if t162 = true then ((cantonref10_number.f ((rd_T34 l0 x3_1).f1)).bind fun t164 => (if t164 = true then ((cantonref10_number.f ((rd_T34 l0 x3_1).f2)).bind fun t166 => (if t166 = true then (if x3_1 > 0 then (if 0 ≤ (wrap64 (x3_1 - 1)) then (if (wrap64 (x3_1 - 1)) < (l0.length : Int) then (cantonref10_Right.j1 k1 l0 x3_1 (!(Op.bytesLess (((rd_T34 l0 (wrap64 (x3_1 - 1))).f0).toList) (((rd_T34 l0 x3_1).f0).toList)))) else (none)) else (none)) else (cantonref10_Right.j1 k1 l0 x3_1 false)) else (cantonref10_Right.j1 k1 l0 x3_1 true))) else (cantonref10_Right.j1 k1 l0 x3_1 true))) else (cantonref10_Right.j1 k1 l0 x3_1 true)) = some r := H
      have A5 := Aside0.mk A50
      clear A50
      by_cases c6 : t162 = true
      ·subst c6
       have H1 : ((cantonref10_number.f ((rd_T34 l0 x3_1).f1)).bind fun t164 => (if t164 = true then ((cantonref10_number.f ((rd_T34 l0 x3_1).f2)).bind fun t166 => (if t166 = true then (if x3_1 > 0 then (if 0 ≤ (wrap64 (x3_1 - 1)) then (if (wrap64 (x3_1 - 1)) < (l0.length : Int) then (cantonref10_Right.j1 k1 l0 x3_1 (!(Op.bytesLess (((rd_T34 l0 (wrap64 (x3_1 - 1))).f0).toList) (((rd_T34 l0 x3_1).f0).toList)))) else (none)) else (none)) else (cantonref10_Right.j1 k1 l0 x3_1 false)) else (cantonref10_Right.j1 k1 l0 x3_1 true))) else (cantonref10_Right.j1 k1 l0 x3_1 true))) = some r := by rw [if_pos rfl] at H; exact H
       clear H
       have H := H1
       clear H1
       replace H := Option.bind_eq_some_iff.mp H
       obtain ⟨t164, A70, H⟩ := H
       replace H : (if t164 = true then ((cantonref10_number.f ((rd_T34 l0 x3_1).f2)).bind fun t166 => (if t166 = true then (if x3_1 > 0 then (if 0 ≤ (wrap64 (x3_1 - 1)) then (if (wrap64 (x3_1 - 1)) < (l0.length : Int) then (cantonref10_Right.j1 k1 l0 x3_1 (!(Op.bytesLess (((rd_T34 l0 (wrap64 (x3_1 - 1))).f0).toList) (((rd_T34 l0 x3_1).f0).toList)))) else (none)) else (none)) else (cantonref10_Right.j1 k1 l0 x3_1 false)) else (cantonref10_Right.j1 k1 l0 x3_1 true))) else (cantonref10_Right.j1 k1 l0 x3_1 true)) = some r := H
       have A7 := Aside0.mk A70
       clear A70
       by_cases c8 : t164 = true
       ·subst c8
        have H1 : ((cantonref10_number.f ((rd_T34 l0 x3_1).f2)).bind fun t166 => (if t166 = true then (if x3_1 > 0 then (if 0 ≤ (wrap64 (x3_1 - 1)) then (if (wrap64 (x3_1 - 1)) < (l0.length : Int) then (cantonref10_Right.j1 k1 l0 x3_1 (!(Op.bytesLess (((rd_T34 l0 (wrap64 (x3_1 - 1))).f0).toList) (((rd_T34 l0 x3_1).f0).toList)))) else (none)) else (none)) else (cantonref10_Right.j1 k1 l0 x3_1 false)) else (cantonref10_Right.j1 k1 l0 x3_1 true))) = some r := by rw [if_pos rfl] at H; exact H
        clear H
        have H := H1
        clear H1
        replace H := Option.bind_eq_some_iff.mp H
        obtain ⟨t166, A90, H⟩ := H
        replace H : (if t166 = true then (if x3_1 > 0 then (if 0 ≤ (wrap64 (x3_1 - 1)) then (if (wrap64 (x3_1 - 1)) < (l0.length : Int) then (cantonref10_Right.j1 k1 l0 x3_1 (!(Op.bytesLess (((rd_T34 l0 (wrap64 (x3_1 - 1))).f0).toList) (((rd_T34 l0 x3_1).f0).toList)))) else (none)) else (none)) else (cantonref10_Right.j1 k1 l0 x3_1 false)) else (cantonref10_Right.j1 k1 l0 x3_1 true)) = some r := H
        have A9 := Aside0.mk A90
        clear A90
        by_cases c10 : t166 = true
        ·subst c10
         have H1 : (if x3_1 > 0 then (if 0 ≤ (wrap64 (x3_1 - 1)) then (if (wrap64 (x3_1 - 1)) < (l0.length : Int) then (cantonref10_Right.j1 k1 l0 x3_1 (!(Op.bytesLess (((rd_T34 l0 (wrap64 (x3_1 - 1))).f0).toList) (((rd_T34 l0 x3_1).f0).toList)))) else (none)) else (none)) else (cantonref10_Right.j1 k1 l0 x3_1 false)) = some r := by rw [if_pos rfl] at H; exact H
         clear H
         have H := H1
         clear H1
         by_cases c11 : x3_1 > 0
         ·rw [if_pos c11] at H
          have c11b0 : decide (0 < x3_1) = true := decide_eq_true c11
          clear c11
          obtain ⟨ji12, hji12⟩ : ∃ j_ : Int, (wrap64 (x3_1 - 1)) = j_ := ⟨_, rfl⟩
          replace H : (if 0 ≤ (ji12) then (if (ji12) < (l0.length : Int) then (cantonref10_Right.j1 k1 l0 x3_1 (!(Op.bytesLess (((rd_T34 l0 (ji12)).f0).toList) (((rd_T34 l0 x3_1).f0).toList)))) else (none)) else (none)) = some r := by first | (rw [hji12] at H; exact H) | (simp only [hji12] at H ⊢; exact H)
          (try rw [hji12] at A5)
          (try rw [hji12] at A7)
          (try rw [hji12] at A9)
          have hji12w : (IntKind.i64.wrap (x3_1 - 1)) = ji12 := (i64_w _).trans hji12
          by_cases c13 : 0 ≤ (ji12)
          ·rw [if_pos c13] at H
           have c13b0 : decide (0 ≤ (ji12)) = true := decide_eq_true c13
           clear c13
           by_cases c14 : (ji12) < (l0.length : Int)
           ·rw [if_pos c14] at H
            have c14b0 : decide ((ji12) < (l0.length : Int)) = true := decide_eq_true c14
            clear c14
            have H' := Aside0.mk H
            clear H
            try go_wp2
            have n0_ := Aside0.mk (below_drew1 HB.out)
            clear HB
            have HB := n0_
            clear n0_
            have p161 : 0 ≤ (x3_1 : Int) := of_decide_eq_true (by first | (with_reducible assumption) | assumption)
            have q161 : x3_1 < (l0.length : Int) := of_decide_eq_true (by first | (with_reducible assumption) | assumption)
            obtain ⟨ad161, e161, hx161_0, hx161_1, hx161_2⟩ := at_T34 HR0.out x3_1 p161 q161
            have hw161_2 := hx161_2
            have hw161_1 := hx161_1
            have hw161_0 := hx161_0
            cases e161
            replace hx161_0 := (HB.out.cell (World.block_lt_of_cell? w _ hx161_0)).trans hx161_0
            replace hx161_1 := (HB.out.cell (World.block_lt_of_cell? w _ hx161_1)).trans hx161_1
            replace hx161_2 := (HB.out.cell (World.block_lt_of_cell? w _ hx161_2)).trans hx161_2
            replace p161 := eq_true p161
            replace q161 := eq_true q161
            have p163 : 0 ≤ (x3_1 : Int) := of_decide_eq_true (by first | (with_reducible assumption) | assumption)
            have q163 : x3_1 < (l0.length : Int) := of_decide_eq_true (by first | (with_reducible assumption) | assumption)
            obtain ⟨ad163, e163, hx163_0, hx163_1, hx163_2⟩ := at_T34 HR0.out x3_1 p163 q163
            have hw163_2 := hx163_2
            have hw163_1 := hx163_1
            have hw163_0 := hx163_0
            obtain rfl : ad161 = ad163 := (by injection e163)
            replace hx163_0 := (HB.out.cell (World.block_lt_of_cell? w _ hx163_0)).trans hx163_0
            replace hx163_1 := (HB.out.cell (World.block_lt_of_cell? w _ hx163_1)).trans hx163_1
            replace hx163_2 := (HB.out.cell (World.block_lt_of_cell? w _ hx163_2)).trans hx163_2
            replace p163 := eq_true p163
            replace q163 := eq_true q163
            have p165 : 0 ≤ (x3_1 : Int) := of_decide_eq_true (by first | (with_reducible assumption) | assumption)
            have q165 : x3_1 < (l0.length : Int) := of_decide_eq_true (by first | (with_reducible assumption) | assumption)
            obtain ⟨ad165, e165, hx165_0, hx165_1, hx165_2⟩ := at_T34 HR0.out x3_1 p165 q165
            have hw165_2 := hx165_2
            have hw165_1 := hx165_1
            have hw165_0 := hx165_0
            obtain rfl : ad161 = ad165 := (by injection e165)
            replace hx165_0 := (HB.out.cell (World.block_lt_of_cell? w _ hx165_0)).trans hx165_0
            replace hx165_1 := (HB.out.cell (World.block_lt_of_cell? w _ hx165_1)).trans hx165_1
            replace hx165_2 := (HB.out.cell (World.block_lt_of_cell? w _ hx165_2)).trans hx165_2
            replace p165 := eq_true p165
            replace q165 := eq_true q165
            have p167 : 0 ≤ ((ji12) : Int) := of_decide_eq_true (by first | (with_reducible assumption) | assumption)
            have q167 : (ji12) < (l0.length : Int) := of_decide_eq_true (by first | (with_reducible assumption) | assumption)
            obtain ⟨ad167, e167, hx167_0, hx167_1, hx167_2⟩ := at_T34 HR0.out (ji12) p167 q167
            have hw167_2 := hx167_2
            have hw167_1 := hx167_1
            have hw167_0 := hx167_0
            obtain rfl : ad161 = ad167 := (by injection e167)
            replace hx167_0 := (HB.out.cell (World.block_lt_of_cell? w _ hx167_0)).trans hx167_0
            replace hx167_1 := (HB.out.cell (World.block_lt_of_cell? w _ hx167_1)).trans hx167_1
            replace hx167_2 := (HB.out.cell (World.block_lt_of_cell? w _ hx167_2)).trans hx167_2
            replace p167 := eq_true p167
            replace q167 := eq_true q167
            have p168 : 0 ≤ (x3_1 : Int) := of_decide_eq_true (by first | (with_reducible assumption) | assumption)
            have q168 : x3_1 < (l0.length : Int) := of_decide_eq_true (by first | (with_reducible assumption) | assumption)
            obtain ⟨ad168, e168, hx168_0, hx168_1, hx168_2⟩ := at_T34 HR0.out x3_1 p168 q168
            have hw168_2 := hx168_2
            have hw168_1 := hx168_1
            have hw168_0 := hx168_0
            obtain rfl : ad161 = ad168 := (by injection e168)
            replace hx168_0 := (HB.out.cell (World.block_lt_of_cell? w _ hx168_0)).trans hx168_0
            replace hx168_1 := (HB.out.cell (World.block_lt_of_cell? w _ hx168_1)).trans hx168_1
            replace hx168_2 := (HB.out.cell (World.block_lt_of_cell? w _ hx168_2)).trans hx168_2
            replace p168 := eq_true p168
            replace q168 := eq_true q168
            refine start_ (n := 43) (S := fun w' => w'.cell? (ad161.add ((x3_1).toNat * 3)) = some (.string ((rd_T34 l0 x3_1).f0)) ∧ w'.cell? ⟨(ad161.add ((x3_1).toNat * 3)).block, (ad161.add ((x3_1).toNat * 3)).off + 1, none⟩ = some (.int .i64 ((rd_T34 l0 x3_1).f1)) ∧ w'.cell? ⟨(ad161.add ((x3_1).toNat * 3)).block, (ad161.add ((x3_1).toNat * 3)).off + 2, none⟩ = some (.int .i64 ((rd_T34 l0 x3_1).f2)) ∧ w'.cell? (ad161.add ((x3_1).toNat * 3)) = some (.string ((rd_T34 l0 x3_1).f0)) ∧ w'.cell? ⟨(ad161.add ((x3_1).toNat * 3)).block, (ad161.add ((x3_1).toNat * 3)).off + 1, none⟩ = some (.int .i64 ((rd_T34 l0 x3_1).f1)) ∧ w'.cell? ⟨(ad161.add ((x3_1).toNat * 3)).block, (ad161.add ((x3_1).toNat * 3)).off + 2, none⟩ = some (.int .i64 ((rd_T34 l0 x3_1).f2)) ∧ w'.cell? (ad161.add ((x3_1).toNat * 3)) = some (.string ((rd_T34 l0 x3_1).f0)) ∧ w'.cell? ⟨(ad161.add ((x3_1).toNat * 3)).block, (ad161.add ((x3_1).toNat * 3)).off + 1, none⟩ = some (.int .i64 ((rd_T34 l0 x3_1).f1)) ∧ w'.cell? ⟨(ad161.add ((x3_1).toNat * 3)).block, (ad161.add ((x3_1).toNat * 3)).off + 2, none⟩ = some (.int .i64 ((rd_T34 l0 x3_1).f2)) ∧ w'.cell? (ad161.add (((ji12)).toNat * 3)) = some (.string ((rd_T34 l0 (ji12)).f0)) ∧ w'.cell? ⟨(ad161.add (((ji12)).toNat * 3)).block, (ad161.add (((ji12)).toNat * 3)).off + 1, none⟩ = some (.int .i64 ((rd_T34 l0 (ji12)).f1)) ∧ w'.cell? ⟨(ad161.add (((ji12)).toNat * 3)).block, (ad161.add (((ji12)).toNat * 3)).off + 2, none⟩ = some (.int .i64 ((rd_T34 l0 (ji12)).f2)) ∧ w'.cell? (ad161.add ((x3_1).toNat * 3)) = some (.string ((rd_T34 l0 x3_1).f0)) ∧ w'.cell? ⟨(ad161.add ((x3_1).toNat * 3)).block, (ad161.add ((x3_1).toNat * 3)).off + 1, none⟩ = some (.int .i64 ((rd_T34 l0 x3_1).f1)) ∧ w'.cell? ⟨(ad161.add ((x3_1).toNat * 3)).block, (ad161.add ((x3_1).toNat * 3)).off + 2, none⟩ = some (.int .i64 ((rd_T34 l0 x3_1).f2))) (ds := []) x4tr43_0 (by kernel_rfl) rfl rfl ⟨((HB.out.cell (World.block_lt_of_cell? w _ hw161_0)).trans hw161_0), ((HB.out.cell (World.block_lt_of_cell? w _ hw161_1)).trans hw161_1), ((HB.out.cell (World.block_lt_of_cell? w _ hw161_2)).trans hw161_2), ((HB.out.cell (World.block_lt_of_cell? w _ hw163_0)).trans hw163_0), ((HB.out.cell (World.block_lt_of_cell? w _ hw163_1)).trans hw163_1), ((HB.out.cell (World.block_lt_of_cell? w _ hw163_2)).trans hw163_2), ((HB.out.cell (World.block_lt_of_cell? w _ hw165_0)).trans hw165_0), ((HB.out.cell (World.block_lt_of_cell? w _ hw165_1)).trans hw165_1), ((HB.out.cell (World.block_lt_of_cell? w _ hw165_2)).trans hw165_2), ((HB.out.cell (World.block_lt_of_cell? w _ hw167_0)).trans hw167_0), ((HB.out.cell (World.block_lt_of_cell? w _ hw167_1)).trans hw167_1), ((HB.out.cell (World.block_lt_of_cell? w _ hw167_2)).trans hw167_2), ((HB.out.cell (World.block_lt_of_cell? w _ hw168_0)).trans hw168_0), ((HB.out.cell (World.block_lt_of_cell? w _ hw168_1)).trans hw168_1), ((HB.out.cell (World.block_lt_of_cell? w _ hw168_2)).trans hw168_2)⟩ (fun hHeld => ?_); refine with_tabW cantonref10_Right.tab4 cantonref10_Right.bits4 (fun HT_ HW_ => ?_)
            generalize wr.drew = w15 at HB hx161_0 hx161_1 hx161_2 hx163_0 hx163_1 hx163_2 hx165_0 hx165_1 hx165_2 hx167_0 hx167_1 hx167_2 hx168_0 hx168_1 hx168_2 hHeld ⊢
            refine pA_ 0 11 x4tr43_1 HT_.out ?_
            refine pA_ 1 12 x4tr43_2 HT_.out ?_
            refine pA_ 2 13 x4tr43_3 HT_.out ?_
            refine pA_ 3 14 x4tr43_4 HT_.out ?_
            refine take_ (i := 4) (N := some 15) (v := ?_) (a' := ?_) x4tr43_5 rfl rfl (take_ofW HT_.out HW_.out (by kernel_rfl)) (fun _ _ _ h => h) (Or.inl ⟨by rfl, ?_⟩) hHeld ?_ ?_
            rotate_left
            ·rintro w' ⟨s0, s1, s2, s3, s4, s5, s6, s7, s8, s9, s10, s11, s12, s13, s14⟩
             go_simp
             with_reducible rfl
            rotate_left
            ·simp only [Act.put, List.setIfInBounds_toArray, List.set_cons_zero, List.set_cons_succ, i64_w, i32_w]
             rfl
            refine one_ (i := 5) (N := some 16) x4tr43_6 rfl rfl (one_of HT_.out (by kernel_rfl)) (by decide) (fun K hK => ?_)
            refine goes_ Try.func17 (by kernel_rfl) rfl #[.string ((rd_T34 l0 x3_1).f0)] (by rfl) rfl rfl (by (try simp only [List.map_toArray, List.map_cons, List.map_nil]); first | done | rfl | (simp only [List.length_drop, List.length_take]; rfl)) ?_
            with_reducible refine (cantonref01_Right.calls k1 ((rd_T34 l0 x3_1).f0) true _ A5.out).mono ?_
            rintro e w16 ⟨rfl, hb⟩
            refine ⟨_, rfl, ?_⟩
            have n0_ := Aside0.mk (below_step (kZ HB) hb)
            clear HB
            have HB := n0_
            clear n0_
            (try clear hb)
            (try clear hb2)
            (try clear hk)
            (try clear hi)
            refine hK.out _ _ ⟨((HB.out.cell (World.block_lt_of_cell? w _ hw161_0)).trans hw161_0), ((HB.out.cell (World.block_lt_of_cell? w _ hw161_1)).trans hw161_1), ((HB.out.cell (World.block_lt_of_cell? w _ hw161_2)).trans hw161_2), ((HB.out.cell (World.block_lt_of_cell? w _ hw163_0)).trans hw163_0), ((HB.out.cell (World.block_lt_of_cell? w _ hw163_1)).trans hw163_1), ((HB.out.cell (World.block_lt_of_cell? w _ hw163_2)).trans hw163_2), ((HB.out.cell (World.block_lt_of_cell? w _ hw165_0)).trans hw165_0), ((HB.out.cell (World.block_lt_of_cell? w _ hw165_1)).trans hw165_1), ((HB.out.cell (World.block_lt_of_cell? w _ hw165_2)).trans hw165_2), ((HB.out.cell (World.block_lt_of_cell? w _ hw167_0)).trans hw167_0), ((HB.out.cell (World.block_lt_of_cell? w _ hw167_1)).trans hw167_1), ((HB.out.cell (World.block_lt_of_cell? w _ hw167_2)).trans hw167_2), ((HB.out.cell (World.block_lt_of_cell? w _ hw168_0)).trans hw168_0), ((HB.out.cell (World.block_lt_of_cell? w _ hw168_1)).trans hw168_1), ((HB.out.cell (World.block_lt_of_cell? w _ hw168_2)).trans hw168_2)⟩ (fun hHeld => ?_)
            clear hK K
            refine norm_ (a' := ?_) ?_ ?_
            rotate_left
            ·show Act.put _ (some 16) _ = _
             simp only [Act.put, List.setIfInBounds_toArray, List.set_cons_zero, List.set_cons_succ, i64_w, i32_w]
             rfl
            refine pA_ 6 17 x4tr43_7 HT_.out ?_
            refine pA_ 7 18 x4tr43_8 HT_.out ?_
            refine pA_ 8 19 x4tr43_9 HT_.out ?_
            refine pA_ 9 20 x4tr43_10 HT_.out ?_
            refine pA_ 10 21 x4tr43_11 HT_.out ?_
            refine pA_ 11 22 x4tr43_12 HT_.out ?_
            refine take_ (i := 12) (N := some 23) (v := ?_) (a' := ?_) x4tr43_13 rfl rfl (take_ofW HT_.out HW_.out (by kernel_rfl)) (fun _ _ _ h => h) (Or.inl ⟨by rfl, ?_⟩) hHeld ?_ ?_
            rotate_left
            ·rintro w' ⟨s0, s1, s2, s3, s4, s5, s6, s7, s8, s9, s10, s11, s12, s13, s14⟩
             go_simp
             with_reducible rfl
            rotate_left
            ·simp only [Act.put, List.setIfInBounds_toArray, List.set_cons_zero, List.set_cons_succ, i64_w, i32_w]
             rfl
            refine one_ (i := 13) (N := some 24) x4tr43_14 rfl rfl (one_of HT_.out (by kernel_rfl)) (by decide) (fun K hK => ?_)
            refine goes_ Try.func18 (by kernel_rfl) rfl #[.int .i64 ((rd_T34 l0 x3_1).f1)] (by rfl) rfl rfl (by (try simp only [List.map_toArray, List.map_cons, List.map_nil]); first | done | rfl | (simp only [List.length_drop, List.length_take]; rfl)) ?_
            with_reducible refine (cantonref10_number.calls ((rd_T34 l0 x3_1).f1) true _ A7.out).mono ?_
            rintro e w' ⟨rfl, ⟨nd, rfl⟩⟩
            refine ⟨_, rfl, ?_⟩
            refine hK.out _ _ ⟨((HB.out.cell (World.block_lt_of_cell? w _ hw161_0)).trans hw161_0), ((HB.out.cell (World.block_lt_of_cell? w _ hw161_1)).trans hw161_1), ((HB.out.cell (World.block_lt_of_cell? w _ hw161_2)).trans hw161_2), ((HB.out.cell (World.block_lt_of_cell? w _ hw163_0)).trans hw163_0), ((HB.out.cell (World.block_lt_of_cell? w _ hw163_1)).trans hw163_1), ((HB.out.cell (World.block_lt_of_cell? w _ hw163_2)).trans hw163_2), ((HB.out.cell (World.block_lt_of_cell? w _ hw165_0)).trans hw165_0), ((HB.out.cell (World.block_lt_of_cell? w _ hw165_1)).trans hw165_1), ((HB.out.cell (World.block_lt_of_cell? w _ hw165_2)).trans hw165_2), ((HB.out.cell (World.block_lt_of_cell? w _ hw167_0)).trans hw167_0), ((HB.out.cell (World.block_lt_of_cell? w _ hw167_1)).trans hw167_1), ((HB.out.cell (World.block_lt_of_cell? w _ hw167_2)).trans hw167_2), ((HB.out.cell (World.block_lt_of_cell? w _ hw168_0)).trans hw168_0), ((HB.out.cell (World.block_lt_of_cell? w _ hw168_1)).trans hw168_1), ((HB.out.cell (World.block_lt_of_cell? w _ hw168_2)).trans hw168_2)⟩ (fun hHeld => ?_)
            clear hK K
            refine norm_ (a' := ?_) ?_ ?_
            rotate_left
            ·show Act.put _ (some 24) _ = _
             simp only [Act.put, List.setIfInBounds_toArray, List.set_cons_zero, List.set_cons_succ, i64_w, i32_w]
             rfl
            refine pA_ 14 25 x4tr43_15 HT_.out ?_
            refine pA_ 15 26 x4tr43_16 HT_.out ?_
            refine pA_ 16 27 x4tr43_17 HT_.out ?_
            refine pA_ 17 28 x4tr43_18 HT_.out ?_
            refine pA_ 18 29 x4tr43_19 HT_.out ?_
            refine pA_ 19 30 x4tr43_20 HT_.out ?_
            refine pA_ 20 31 x4tr43_21 HT_.out ?_
            refine take_ (i := 21) (N := some 32) (v := ?_) (a' := ?_) x4tr43_22 rfl rfl (take_ofW HT_.out HW_.out (by kernel_rfl)) (fun _ _ _ h => h) (Or.inl ⟨by rfl, ?_⟩) hHeld ?_ ?_
            rotate_left
            ·rintro w' ⟨s0, s1, s2, s3, s4, s5, s6, s7, s8, s9, s10, s11, s12, s13, s14⟩
             go_simp
             with_reducible rfl
            rotate_left
            ·simp only [Act.put, List.setIfInBounds_toArray, List.set_cons_zero, List.set_cons_succ, i64_w, i32_w]
             rfl
            refine one_ (i := 22) (N := some 33) x4tr43_23 rfl rfl (one_of HT_.out (by kernel_rfl)) (by decide) (fun K hK => ?_)
            refine goes_ Try.func18 (by kernel_rfl) rfl #[.int .i64 ((rd_T34 l0 x3_1).f2)] (by rfl) rfl rfl (by (try simp only [List.map_toArray, List.map_cons, List.map_nil]); first | done | rfl | (simp only [List.length_drop, List.length_take]; rfl)) ?_
            with_reducible refine (cantonref10_number.calls ((rd_T34 l0 x3_1).f2) true _ A9.out).mono ?_
            rintro e w' ⟨rfl, ⟨nd, rfl⟩⟩
            refine ⟨_, rfl, ?_⟩
            refine hK.out _ _ ⟨((HB.out.cell (World.block_lt_of_cell? w _ hw161_0)).trans hw161_0), ((HB.out.cell (World.block_lt_of_cell? w _ hw161_1)).trans hw161_1), ((HB.out.cell (World.block_lt_of_cell? w _ hw161_2)).trans hw161_2), ((HB.out.cell (World.block_lt_of_cell? w _ hw163_0)).trans hw163_0), ((HB.out.cell (World.block_lt_of_cell? w _ hw163_1)).trans hw163_1), ((HB.out.cell (World.block_lt_of_cell? w _ hw163_2)).trans hw163_2), ((HB.out.cell (World.block_lt_of_cell? w _ hw165_0)).trans hw165_0), ((HB.out.cell (World.block_lt_of_cell? w _ hw165_1)).trans hw165_1), ((HB.out.cell (World.block_lt_of_cell? w _ hw165_2)).trans hw165_2), ((HB.out.cell (World.block_lt_of_cell? w _ hw167_0)).trans hw167_0), ((HB.out.cell (World.block_lt_of_cell? w _ hw167_1)).trans hw167_1), ((HB.out.cell (World.block_lt_of_cell? w _ hw167_2)).trans hw167_2), ((HB.out.cell (World.block_lt_of_cell? w _ hw168_0)).trans hw168_0), ((HB.out.cell (World.block_lt_of_cell? w _ hw168_1)).trans hw168_1), ((HB.out.cell (World.block_lt_of_cell? w _ hw168_2)).trans hw168_2)⟩ (fun hHeld => ?_)
            clear hK K
            refine norm_ (a' := ?_) ?_ ?_
            rotate_left
            ·show Act.put _ (some 33) _ = _
             simp only [Act.put, List.setIfInBounds_toArray, List.set_cons_zero, List.set_cons_succ, i64_w, i32_w]
             rfl
            refine pA_ 23 34 x4tr43_24 HT_.out ?_
            refine pA_ 24 35 x4tr43_25 HT_.out ?_
            refine pA_ 25 36 x4tr43_26 HT_.out ?_
            refine pA_ 26 37 x4tr43_27 HT_.out ?_
            refine pA_ 27 38 x4tr43_28 HT_.out ?_
            refine pA_ 28 39 x4tr43_29 HT_.out ?_
            refine pA_ 29 40 x4tr43_30 HT_.out ?_
            refine pA_ 30 41 x4tr43_31 HT_.out ?_
            refine pA_ 31 42 x4tr43_32 HT_.out ?_
            refine pA_ 32 43 x4tr43_33 HT_.out ?_
            refine pA_ 33 44 x4tr43_34 HT_.out ?_
            refine pA_ 35 46 x4tr43_m1111111111111111111111111111111111010000000 HT_.out ?_
            refine pA_ 36 47 x4tr43_m1111111111111111111111111111111111011000000 HT_.out ?_
            refine pA_ 37 48 x4tr43_m1111111111111111111111111111111111011100000 HT_.out ?_
            refine pA_ 38 49 x4tr43_m1111111111111111111111111111111111011110000 HT_.out ?_
            refine take_ (i := 34) (N := some 45) (v := ?_) (a' := ?_) x4tr43_39 rfl rfl (take_ofW HT_.out HW_.out (by kernel_rfl)) (fun _ _ _ h => h) (Or.inl ⟨by rfl, ?_⟩) hHeld ?_ ?_
            rotate_left
            ·rintro w' ⟨s0, s1, s2, s3, s4, s5, s6, s7, s8, s9, s10, s11, s12, s13, s14⟩
             go_simp
             with_reducible rfl
            rotate_left
            ·simp only [Act.put, List.setIfInBounds_toArray, List.set_cons_zero, List.set_cons_succ, i64_w, i32_w]
             rfl
            refine take_ (i := 39) (N := some 50) (v := ?_) (a' := ?_) x4tr43_40 rfl rfl (take_ofW HT_.out HW_.out (by kernel_rfl)) (fun _ _ _ h => h) (Or.inl ⟨by rfl, ?_⟩) hHeld ?_ ?_
            rotate_left
            ·rintro w' ⟨s0, s1, s2, s3, s4, s5, s6, s7, s8, s9, s10, s11, s12, s13, s14⟩
             go_simp
             with_reducible rfl
            rotate_left
            ·simp only [Act.put, List.setIfInBounds_toArray, List.set_cons_zero, List.set_cons_succ, i64_w, i32_w]
             rfl
            refine pA_ 40 51 x4tr43_41 HT_.out ?_
            refine pA_ 41 52 x4tr43_42 HT_.out ?_
            refine pA_ 42 53 x4tr43_43 HT_.out ?_
            refine done_ (done_of HT_.out (by kernel_rfl)) ?_
            try go_wp2
            go_meet
            case rel => exact ⟨_, (!(Op.bytesLess (((rd_T34 l0 (ji12)).f0).toList) (((rd_T34 l0 x3_1).f0).toList))), (by first | rfl | (simp; done) | (simp only [← hji12] <;> (first | rfl | simp)) | (simp [*]; done)), H', ⟨by have := HK1.out; first | omega | exact Nat.le_refl _⟩, ⟨kZ HB⟩⟩
           ·rw [if_neg c14] at H
            exact absurd H (by simp)
          ·rw [if_neg c13] at H
           exact absurd H (by simp)
         ·rw [if_neg c11] at H
          have c11b0 : decide (0 < x3_1) = false := decide_eq_false c11
          clear c11
          have H' := Aside0.mk H
          clear H
          try go_wp2
          have n0_ := Aside0.mk (below_drew1 HB.out)
          clear HB
          have HB := n0_
          clear n0_
          have p161 : 0 ≤ (x3_1 : Int) := of_decide_eq_true (by first | (with_reducible assumption) | assumption)
          have q161 : x3_1 < (l0.length : Int) := of_decide_eq_true (by first | (with_reducible assumption) | assumption)
          obtain ⟨ad161, e161, hx161_0, hx161_1, hx161_2⟩ := at_T34 HR0.out x3_1 p161 q161
          have hw161_2 := hx161_2
          have hw161_1 := hx161_1
          have hw161_0 := hx161_0
          cases e161
          replace hx161_0 := (HB.out.cell (World.block_lt_of_cell? w _ hx161_0)).trans hx161_0
          replace hx161_1 := (HB.out.cell (World.block_lt_of_cell? w _ hx161_1)).trans hx161_1
          replace hx161_2 := (HB.out.cell (World.block_lt_of_cell? w _ hx161_2)).trans hx161_2
          replace p161 := eq_true p161
          replace q161 := eq_true q161
          have p163 : 0 ≤ (x3_1 : Int) := of_decide_eq_true (by first | (with_reducible assumption) | assumption)
          have q163 : x3_1 < (l0.length : Int) := of_decide_eq_true (by first | (with_reducible assumption) | assumption)
          obtain ⟨ad163, e163, hx163_0, hx163_1, hx163_2⟩ := at_T34 HR0.out x3_1 p163 q163
          have hw163_2 := hx163_2
          have hw163_1 := hx163_1
          have hw163_0 := hx163_0
          obtain rfl : ad161 = ad163 := (by injection e163)
          replace hx163_0 := (HB.out.cell (World.block_lt_of_cell? w _ hx163_0)).trans hx163_0
          replace hx163_1 := (HB.out.cell (World.block_lt_of_cell? w _ hx163_1)).trans hx163_1
          replace hx163_2 := (HB.out.cell (World.block_lt_of_cell? w _ hx163_2)).trans hx163_2
          replace p163 := eq_true p163
          replace q163 := eq_true q163
          have p165 : 0 ≤ (x3_1 : Int) := of_decide_eq_true (by first | (with_reducible assumption) | assumption)
          have q165 : x3_1 < (l0.length : Int) := of_decide_eq_true (by first | (with_reducible assumption) | assumption)
          obtain ⟨ad165, e165, hx165_0, hx165_1, hx165_2⟩ := at_T34 HR0.out x3_1 p165 q165
          have hw165_2 := hx165_2
          have hw165_1 := hx165_1
          have hw165_0 := hx165_0
          obtain rfl : ad161 = ad165 := (by injection e165)
          replace hx165_0 := (HB.out.cell (World.block_lt_of_cell? w _ hx165_0)).trans hx165_0
          replace hx165_1 := (HB.out.cell (World.block_lt_of_cell? w _ hx165_1)).trans hx165_1
          replace hx165_2 := (HB.out.cell (World.block_lt_of_cell? w _ hx165_2)).trans hx165_2
          replace p165 := eq_true p165
          replace q165 := eq_true q165
          refine start_ (n := 43) (S := fun w' => w'.cell? (ad161.add ((x3_1).toNat * 3)) = some (.string ((rd_T34 l0 x3_1).f0)) ∧ w'.cell? ⟨(ad161.add ((x3_1).toNat * 3)).block, (ad161.add ((x3_1).toNat * 3)).off + 1, none⟩ = some (.int .i64 ((rd_T34 l0 x3_1).f1)) ∧ w'.cell? ⟨(ad161.add ((x3_1).toNat * 3)).block, (ad161.add ((x3_1).toNat * 3)).off + 2, none⟩ = some (.int .i64 ((rd_T34 l0 x3_1).f2)) ∧ w'.cell? (ad161.add ((x3_1).toNat * 3)) = some (.string ((rd_T34 l0 x3_1).f0)) ∧ w'.cell? ⟨(ad161.add ((x3_1).toNat * 3)).block, (ad161.add ((x3_1).toNat * 3)).off + 1, none⟩ = some (.int .i64 ((rd_T34 l0 x3_1).f1)) ∧ w'.cell? ⟨(ad161.add ((x3_1).toNat * 3)).block, (ad161.add ((x3_1).toNat * 3)).off + 2, none⟩ = some (.int .i64 ((rd_T34 l0 x3_1).f2)) ∧ w'.cell? (ad161.add ((x3_1).toNat * 3)) = some (.string ((rd_T34 l0 x3_1).f0)) ∧ w'.cell? ⟨(ad161.add ((x3_1).toNat * 3)).block, (ad161.add ((x3_1).toNat * 3)).off + 1, none⟩ = some (.int .i64 ((rd_T34 l0 x3_1).f1)) ∧ w'.cell? ⟨(ad161.add ((x3_1).toNat * 3)).block, (ad161.add ((x3_1).toNat * 3)).off + 2, none⟩ = some (.int .i64 ((rd_T34 l0 x3_1).f2))) (ds := []) x4tr43_0 (by kernel_rfl) rfl rfl ⟨((HB.out.cell (World.block_lt_of_cell? w _ hw161_0)).trans hw161_0), ((HB.out.cell (World.block_lt_of_cell? w _ hw161_1)).trans hw161_1), ((HB.out.cell (World.block_lt_of_cell? w _ hw161_2)).trans hw161_2), ((HB.out.cell (World.block_lt_of_cell? w _ hw163_0)).trans hw163_0), ((HB.out.cell (World.block_lt_of_cell? w _ hw163_1)).trans hw163_1), ((HB.out.cell (World.block_lt_of_cell? w _ hw163_2)).trans hw163_2), ((HB.out.cell (World.block_lt_of_cell? w _ hw165_0)).trans hw165_0), ((HB.out.cell (World.block_lt_of_cell? w _ hw165_1)).trans hw165_1), ((HB.out.cell (World.block_lt_of_cell? w _ hw165_2)).trans hw165_2)⟩ (fun hHeld => ?_); refine with_tabW cantonref10_Right.tab4 cantonref10_Right.bits4 (fun HT_ HW_ => ?_)
          generalize wr.drew = w17 at HB hx161_0 hx161_1 hx161_2 hx163_0 hx163_1 hx163_2 hx165_0 hx165_1 hx165_2 hHeld ⊢
          refine pA_ 0 11 x4tr43_1 HT_.out ?_
          refine pA_ 1 12 x4tr43_2 HT_.out ?_
          refine pA_ 2 13 x4tr43_3 HT_.out ?_
          refine pA_ 3 14 x4tr43_4 HT_.out ?_
          refine take_ (i := 4) (N := some 15) (v := ?_) (a' := ?_) x4tr43_5 rfl rfl (take_ofW HT_.out HW_.out (by kernel_rfl)) (fun _ _ _ h => h) (Or.inl ⟨by rfl, ?_⟩) hHeld ?_ ?_
          rotate_left
          ·rintro w' ⟨s0, s1, s2, s3, s4, s5, s6, s7, s8⟩
           go_simp
           with_reducible rfl
          rotate_left
          ·simp only [Act.put, List.setIfInBounds_toArray, List.set_cons_zero, List.set_cons_succ, i64_w, i32_w]
           rfl
          refine one_ (i := 5) (N := some 16) x4tr43_6 rfl rfl (one_of HT_.out (by kernel_rfl)) (by decide) (fun K hK => ?_)
          refine goes_ Try.func17 (by kernel_rfl) rfl #[.string ((rd_T34 l0 x3_1).f0)] (by rfl) rfl rfl (by (try simp only [List.map_toArray, List.map_cons, List.map_nil]); first | done | rfl | (simp only [List.length_drop, List.length_take]; rfl)) ?_
          with_reducible refine (cantonref01_Right.calls k1 ((rd_T34 l0 x3_1).f0) true _ A5.out).mono ?_
          rintro e w18 ⟨rfl, hb⟩
          refine ⟨_, rfl, ?_⟩
          have n0_ := Aside0.mk (below_step (kZ HB) hb)
          clear HB
          have HB := n0_
          clear n0_
          (try clear hb)
          (try clear hb2)
          (try clear hk)
          (try clear hi)
          refine hK.out _ _ ⟨((HB.out.cell (World.block_lt_of_cell? w _ hw161_0)).trans hw161_0), ((HB.out.cell (World.block_lt_of_cell? w _ hw161_1)).trans hw161_1), ((HB.out.cell (World.block_lt_of_cell? w _ hw161_2)).trans hw161_2), ((HB.out.cell (World.block_lt_of_cell? w _ hw163_0)).trans hw163_0), ((HB.out.cell (World.block_lt_of_cell? w _ hw163_1)).trans hw163_1), ((HB.out.cell (World.block_lt_of_cell? w _ hw163_2)).trans hw163_2), ((HB.out.cell (World.block_lt_of_cell? w _ hw165_0)).trans hw165_0), ((HB.out.cell (World.block_lt_of_cell? w _ hw165_1)).trans hw165_1), ((HB.out.cell (World.block_lt_of_cell? w _ hw165_2)).trans hw165_2)⟩ (fun hHeld => ?_)
          clear hK K
          refine norm_ (a' := ?_) ?_ ?_
          rotate_left
          ·show Act.put _ (some 16) _ = _
           simp only [Act.put, List.setIfInBounds_toArray, List.set_cons_zero, List.set_cons_succ, i64_w, i32_w]
           rfl
          refine pA_ 6 17 x4tr43_7 HT_.out ?_
          refine pA_ 7 18 x4tr43_8 HT_.out ?_
          refine pA_ 8 19 x4tr43_9 HT_.out ?_
          refine pA_ 9 20 x4tr43_10 HT_.out ?_
          refine pA_ 10 21 x4tr43_11 HT_.out ?_
          refine pA_ 11 22 x4tr43_12 HT_.out ?_
          refine take_ (i := 12) (N := some 23) (v := ?_) (a' := ?_) x4tr43_13 rfl rfl (take_ofW HT_.out HW_.out (by kernel_rfl)) (fun _ _ _ h => h) (Or.inl ⟨by rfl, ?_⟩) hHeld ?_ ?_
          rotate_left
          ·rintro w' ⟨s0, s1, s2, s3, s4, s5, s6, s7, s8⟩
           go_simp
           with_reducible rfl
          rotate_left
          ·simp only [Act.put, List.setIfInBounds_toArray, List.set_cons_zero, List.set_cons_succ, i64_w, i32_w]
           rfl
          refine one_ (i := 13) (N := some 24) x4tr43_14 rfl rfl (one_of HT_.out (by kernel_rfl)) (by decide) (fun K hK => ?_)
          refine goes_ Try.func18 (by kernel_rfl) rfl #[.int .i64 ((rd_T34 l0 x3_1).f1)] (by rfl) rfl rfl (by (try simp only [List.map_toArray, List.map_cons, List.map_nil]); first | done | rfl | (simp only [List.length_drop, List.length_take]; rfl)) ?_
          with_reducible refine (cantonref10_number.calls ((rd_T34 l0 x3_1).f1) true _ A7.out).mono ?_
          rintro e w' ⟨rfl, ⟨nd, rfl⟩⟩
          refine ⟨_, rfl, ?_⟩
          refine hK.out _ _ ⟨((HB.out.cell (World.block_lt_of_cell? w _ hw161_0)).trans hw161_0), ((HB.out.cell (World.block_lt_of_cell? w _ hw161_1)).trans hw161_1), ((HB.out.cell (World.block_lt_of_cell? w _ hw161_2)).trans hw161_2), ((HB.out.cell (World.block_lt_of_cell? w _ hw163_0)).trans hw163_0), ((HB.out.cell (World.block_lt_of_cell? w _ hw163_1)).trans hw163_1), ((HB.out.cell (World.block_lt_of_cell? w _ hw163_2)).trans hw163_2), ((HB.out.cell (World.block_lt_of_cell? w _ hw165_0)).trans hw165_0), ((HB.out.cell (World.block_lt_of_cell? w _ hw165_1)).trans hw165_1), ((HB.out.cell (World.block_lt_of_cell? w _ hw165_2)).trans hw165_2)⟩ (fun hHeld => ?_)
          clear hK K
          refine norm_ (a' := ?_) ?_ ?_
          rotate_left
          ·show Act.put _ (some 24) _ = _
           simp only [Act.put, List.setIfInBounds_toArray, List.set_cons_zero, List.set_cons_succ, i64_w, i32_w]
           rfl
          refine pA_ 14 25 x4tr43_15 HT_.out ?_
          refine pA_ 15 26 x4tr43_16 HT_.out ?_
          refine pA_ 16 27 x4tr43_17 HT_.out ?_
          refine pA_ 17 28 x4tr43_18 HT_.out ?_
          refine pA_ 18 29 x4tr43_19 HT_.out ?_
          refine pA_ 19 30 x4tr43_20 HT_.out ?_
          refine pA_ 20 31 x4tr43_21 HT_.out ?_
          refine take_ (i := 21) (N := some 32) (v := ?_) (a' := ?_) x4tr43_22 rfl rfl (take_ofW HT_.out HW_.out (by kernel_rfl)) (fun _ _ _ h => h) (Or.inl ⟨by rfl, ?_⟩) hHeld ?_ ?_
          rotate_left
          ·rintro w' ⟨s0, s1, s2, s3, s4, s5, s6, s7, s8⟩
           go_simp
           with_reducible rfl
          rotate_left
          ·simp only [Act.put, List.setIfInBounds_toArray, List.set_cons_zero, List.set_cons_succ, i64_w, i32_w]
           rfl
          refine one_ (i := 22) (N := some 33) x4tr43_23 rfl rfl (one_of HT_.out (by kernel_rfl)) (by decide) (fun K hK => ?_)
          refine goes_ Try.func18 (by kernel_rfl) rfl #[.int .i64 ((rd_T34 l0 x3_1).f2)] (by rfl) rfl rfl (by (try simp only [List.map_toArray, List.map_cons, List.map_nil]); first | done | rfl | (simp only [List.length_drop, List.length_take]; rfl)) ?_
          with_reducible refine (cantonref10_number.calls ((rd_T34 l0 x3_1).f2) true _ A9.out).mono ?_
          rintro e w' ⟨rfl, ⟨nd, rfl⟩⟩
          refine ⟨_, rfl, ?_⟩
          refine hK.out _ _ ⟨((HB.out.cell (World.block_lt_of_cell? w _ hw161_0)).trans hw161_0), ((HB.out.cell (World.block_lt_of_cell? w _ hw161_1)).trans hw161_1), ((HB.out.cell (World.block_lt_of_cell? w _ hw161_2)).trans hw161_2), ((HB.out.cell (World.block_lt_of_cell? w _ hw163_0)).trans hw163_0), ((HB.out.cell (World.block_lt_of_cell? w _ hw163_1)).trans hw163_1), ((HB.out.cell (World.block_lt_of_cell? w _ hw163_2)).trans hw163_2), ((HB.out.cell (World.block_lt_of_cell? w _ hw165_0)).trans hw165_0), ((HB.out.cell (World.block_lt_of_cell? w _ hw165_1)).trans hw165_1), ((HB.out.cell (World.block_lt_of_cell? w _ hw165_2)).trans hw165_2)⟩ (fun hHeld => ?_)
          clear hK K
          refine norm_ (a' := ?_) ?_ ?_
          rotate_left
          ·show Act.put _ (some 33) _ = _
           simp only [Act.put, List.setIfInBounds_toArray, List.set_cons_zero, List.set_cons_succ, i64_w, i32_w]
           rfl
          refine pA_ 23 34 x4tr43_24 HT_.out ?_
          refine pA_ 24 35 x4tr43_25 HT_.out ?_
          refine pA_ 25 36 x4tr43_26 HT_.out ?_
          refine pA_ 26 37 x4tr43_27 HT_.out ?_
          refine pA_ 27 38 x4tr43_28 HT_.out ?_
          refine pA_ 28 39 x4tr43_29 HT_.out ?_
          refine pU_ 29 40 x4tr43_30 HT_.out ?_
          refine pU_ 30 41 x4tr43_31 HT_.out ?_
          refine pU_ 31 42 x4tr43_32 HT_.out ?_
          refine pU_ 32 43 x4tr43_33 HT_.out ?_
          refine pU_ 33 44 x4tr43_34 HT_.out ?_
          refine pU_ 34 45 x4tr43_35 HT_.out ?_
          refine pU_ 35 46 x4tr43_36 HT_.out ?_
          refine pU_ 36 47 x4tr43_37 HT_.out ?_
          refine pU_ 37 48 x4tr43_38 HT_.out ?_
          refine pU_ 38 49 x4tr43_39 HT_.out ?_
          refine pU_ 39 50 x4tr43_40 HT_.out ?_
          refine pU_ 40 51 x4tr43_41 HT_.out ?_
          refine pA_ 41 52 x4tr43_42 HT_.out ?_
          refine pA_ 42 53 x4tr43_43 HT_.out ?_
          refine done_ (done_of HT_.out (by kernel_rfl)) ?_
          try go_wp2
          go_meet
          case rel => exact ⟨_, (false), (by first | rfl | (simp; done) | (simp [*]; done)), H', ⟨by have := HK1.out; first | omega | exact Nat.le_refl _⟩, ⟨kZ HB⟩⟩
        ·replace c10 := Bool.eq_false_iff.mpr c10
         subst c10
         have H1 : (cantonref10_Right.j1 k1 l0 x3_1 true) = some r := by rw [if_neg (show ¬ (false = true) by decide)] at H; exact H
         clear H
         have H := H1
         clear H1
         have H' := Aside0.mk H
         clear H
         try go_wp2
         have n0_ := Aside0.mk (below_drew1 HB.out)
         clear HB
         have HB := n0_
         clear n0_
         have p161 : 0 ≤ (x3_1 : Int) := of_decide_eq_true (by first | (with_reducible assumption) | assumption)
         have q161 : x3_1 < (l0.length : Int) := of_decide_eq_true (by first | (with_reducible assumption) | assumption)
         obtain ⟨ad161, e161, hx161_0, hx161_1, hx161_2⟩ := at_T34 HR0.out x3_1 p161 q161
         have hw161_2 := hx161_2
         have hw161_1 := hx161_1
         have hw161_0 := hx161_0
         cases e161
         replace hx161_0 := (HB.out.cell (World.block_lt_of_cell? w _ hx161_0)).trans hx161_0
         replace hx161_1 := (HB.out.cell (World.block_lt_of_cell? w _ hx161_1)).trans hx161_1
         replace hx161_2 := (HB.out.cell (World.block_lt_of_cell? w _ hx161_2)).trans hx161_2
         replace p161 := eq_true p161
         replace q161 := eq_true q161
         have p163 : 0 ≤ (x3_1 : Int) := of_decide_eq_true (by first | (with_reducible assumption) | assumption)
         have q163 : x3_1 < (l0.length : Int) := of_decide_eq_true (by first | (with_reducible assumption) | assumption)
         obtain ⟨ad163, e163, hx163_0, hx163_1, hx163_2⟩ := at_T34 HR0.out x3_1 p163 q163
         have hw163_2 := hx163_2
         have hw163_1 := hx163_1
         have hw163_0 := hx163_0
         obtain rfl : ad161 = ad163 := (by injection e163)
         replace hx163_0 := (HB.out.cell (World.block_lt_of_cell? w _ hx163_0)).trans hx163_0
         replace hx163_1 := (HB.out.cell (World.block_lt_of_cell? w _ hx163_1)).trans hx163_1
         replace hx163_2 := (HB.out.cell (World.block_lt_of_cell? w _ hx163_2)).trans hx163_2
         replace p163 := eq_true p163
         replace q163 := eq_true q163
         have p165 : 0 ≤ (x3_1 : Int) := of_decide_eq_true (by first | (with_reducible assumption) | assumption)
         have q165 : x3_1 < (l0.length : Int) := of_decide_eq_true (by first | (with_reducible assumption) | assumption)
         obtain ⟨ad165, e165, hx165_0, hx165_1, hx165_2⟩ := at_T34 HR0.out x3_1 p165 q165
         have hw165_2 := hx165_2
         have hw165_1 := hx165_1
         have hw165_0 := hx165_0
         obtain rfl : ad161 = ad165 := (by injection e165)
         replace hx165_0 := (HB.out.cell (World.block_lt_of_cell? w _ hx165_0)).trans hx165_0
         replace hx165_1 := (HB.out.cell (World.block_lt_of_cell? w _ hx165_1)).trans hx165_1
         replace hx165_2 := (HB.out.cell (World.block_lt_of_cell? w _ hx165_2)).trans hx165_2
         replace p165 := eq_true p165
         replace q165 := eq_true q165
         refine start_ (n := 43) (S := fun w' => w'.cell? (ad161.add ((x3_1).toNat * 3)) = some (.string ((rd_T34 l0 x3_1).f0)) ∧ w'.cell? ⟨(ad161.add ((x3_1).toNat * 3)).block, (ad161.add ((x3_1).toNat * 3)).off + 1, none⟩ = some (.int .i64 ((rd_T34 l0 x3_1).f1)) ∧ w'.cell? ⟨(ad161.add ((x3_1).toNat * 3)).block, (ad161.add ((x3_1).toNat * 3)).off + 2, none⟩ = some (.int .i64 ((rd_T34 l0 x3_1).f2)) ∧ w'.cell? (ad161.add ((x3_1).toNat * 3)) = some (.string ((rd_T34 l0 x3_1).f0)) ∧ w'.cell? ⟨(ad161.add ((x3_1).toNat * 3)).block, (ad161.add ((x3_1).toNat * 3)).off + 1, none⟩ = some (.int .i64 ((rd_T34 l0 x3_1).f1)) ∧ w'.cell? ⟨(ad161.add ((x3_1).toNat * 3)).block, (ad161.add ((x3_1).toNat * 3)).off + 2, none⟩ = some (.int .i64 ((rd_T34 l0 x3_1).f2)) ∧ w'.cell? (ad161.add ((x3_1).toNat * 3)) = some (.string ((rd_T34 l0 x3_1).f0)) ∧ w'.cell? ⟨(ad161.add ((x3_1).toNat * 3)).block, (ad161.add ((x3_1).toNat * 3)).off + 1, none⟩ = some (.int .i64 ((rd_T34 l0 x3_1).f1)) ∧ w'.cell? ⟨(ad161.add ((x3_1).toNat * 3)).block, (ad161.add ((x3_1).toNat * 3)).off + 2, none⟩ = some (.int .i64 ((rd_T34 l0 x3_1).f2))) (ds := []) x4tr43_0 (by kernel_rfl) rfl rfl ⟨((HB.out.cell (World.block_lt_of_cell? w _ hw161_0)).trans hw161_0), ((HB.out.cell (World.block_lt_of_cell? w _ hw161_1)).trans hw161_1), ((HB.out.cell (World.block_lt_of_cell? w _ hw161_2)).trans hw161_2), ((HB.out.cell (World.block_lt_of_cell? w _ hw163_0)).trans hw163_0), ((HB.out.cell (World.block_lt_of_cell? w _ hw163_1)).trans hw163_1), ((HB.out.cell (World.block_lt_of_cell? w _ hw163_2)).trans hw163_2), ((HB.out.cell (World.block_lt_of_cell? w _ hw165_0)).trans hw165_0), ((HB.out.cell (World.block_lt_of_cell? w _ hw165_1)).trans hw165_1), ((HB.out.cell (World.block_lt_of_cell? w _ hw165_2)).trans hw165_2)⟩ (fun hHeld => ?_); refine with_tabW cantonref10_Right.tab4 cantonref10_Right.bits4 (fun HT_ HW_ => ?_)
         generalize wr.drew = w19 at HB hx161_0 hx161_1 hx161_2 hx163_0 hx163_1 hx163_2 hx165_0 hx165_1 hx165_2 hHeld ⊢
         refine pA_ 0 11 x4tr43_1 HT_.out ?_
         refine pA_ 1 12 x4tr43_2 HT_.out ?_
         refine pA_ 2 13 x4tr43_3 HT_.out ?_
         refine pA_ 3 14 x4tr43_4 HT_.out ?_
         refine take_ (i := 4) (N := some 15) (v := ?_) (a' := ?_) x4tr43_5 rfl rfl (take_ofW HT_.out HW_.out (by kernel_rfl)) (fun _ _ _ h => h) (Or.inl ⟨by rfl, ?_⟩) hHeld ?_ ?_
         rotate_left
         ·rintro w' ⟨s0, s1, s2, s3, s4, s5, s6, s7, s8⟩
          go_simp
          with_reducible rfl
         rotate_left
         ·simp only [Act.put, List.setIfInBounds_toArray, List.set_cons_zero, List.set_cons_succ, i64_w, i32_w]
          rfl
         refine one_ (i := 5) (N := some 16) x4tr43_6 rfl rfl (one_of HT_.out (by kernel_rfl)) (by decide) (fun K hK => ?_)
         refine goes_ Try.func17 (by kernel_rfl) rfl #[.string ((rd_T34 l0 x3_1).f0)] (by rfl) rfl rfl (by (try simp only [List.map_toArray, List.map_cons, List.map_nil]); first | done | rfl | (simp only [List.length_drop, List.length_take]; rfl)) ?_
         with_reducible refine (cantonref01_Right.calls k1 ((rd_T34 l0 x3_1).f0) true _ A5.out).mono ?_
         rintro e w20 ⟨rfl, hb⟩
         refine ⟨_, rfl, ?_⟩
         have n0_ := Aside0.mk (below_step (kZ HB) hb)
         clear HB
         have HB := n0_
         clear n0_
         (try clear hb)
         (try clear hb2)
         (try clear hk)
         (try clear hi)
         refine hK.out _ _ ⟨((HB.out.cell (World.block_lt_of_cell? w _ hw161_0)).trans hw161_0), ((HB.out.cell (World.block_lt_of_cell? w _ hw161_1)).trans hw161_1), ((HB.out.cell (World.block_lt_of_cell? w _ hw161_2)).trans hw161_2), ((HB.out.cell (World.block_lt_of_cell? w _ hw163_0)).trans hw163_0), ((HB.out.cell (World.block_lt_of_cell? w _ hw163_1)).trans hw163_1), ((HB.out.cell (World.block_lt_of_cell? w _ hw163_2)).trans hw163_2), ((HB.out.cell (World.block_lt_of_cell? w _ hw165_0)).trans hw165_0), ((HB.out.cell (World.block_lt_of_cell? w _ hw165_1)).trans hw165_1), ((HB.out.cell (World.block_lt_of_cell? w _ hw165_2)).trans hw165_2)⟩ (fun hHeld => ?_)
         clear hK K
         refine norm_ (a' := ?_) ?_ ?_
         rotate_left
         ·show Act.put _ (some 16) _ = _
          simp only [Act.put, List.setIfInBounds_toArray, List.set_cons_zero, List.set_cons_succ, i64_w, i32_w]
          rfl
         refine pA_ 6 17 x4tr43_7 HT_.out ?_
         refine pA_ 7 18 x4tr43_8 HT_.out ?_
         refine pA_ 8 19 x4tr43_9 HT_.out ?_
         refine pA_ 9 20 x4tr43_10 HT_.out ?_
         refine pA_ 10 21 x4tr43_11 HT_.out ?_
         refine pA_ 11 22 x4tr43_12 HT_.out ?_
         refine take_ (i := 12) (N := some 23) (v := ?_) (a' := ?_) x4tr43_13 rfl rfl (take_ofW HT_.out HW_.out (by kernel_rfl)) (fun _ _ _ h => h) (Or.inl ⟨by rfl, ?_⟩) hHeld ?_ ?_
         rotate_left
         ·rintro w' ⟨s0, s1, s2, s3, s4, s5, s6, s7, s8⟩
          go_simp
          with_reducible rfl
         rotate_left
         ·simp only [Act.put, List.setIfInBounds_toArray, List.set_cons_zero, List.set_cons_succ, i64_w, i32_w]
          rfl
         refine one_ (i := 13) (N := some 24) x4tr43_14 rfl rfl (one_of HT_.out (by kernel_rfl)) (by decide) (fun K hK => ?_)
         refine goes_ Try.func18 (by kernel_rfl) rfl #[.int .i64 ((rd_T34 l0 x3_1).f1)] (by rfl) rfl rfl (by (try simp only [List.map_toArray, List.map_cons, List.map_nil]); first | done | rfl | (simp only [List.length_drop, List.length_take]; rfl)) ?_
         with_reducible refine (cantonref10_number.calls ((rd_T34 l0 x3_1).f1) true _ A7.out).mono ?_
         rintro e w' ⟨rfl, ⟨nd, rfl⟩⟩
         refine ⟨_, rfl, ?_⟩
         refine hK.out _ _ ⟨((HB.out.cell (World.block_lt_of_cell? w _ hw161_0)).trans hw161_0), ((HB.out.cell (World.block_lt_of_cell? w _ hw161_1)).trans hw161_1), ((HB.out.cell (World.block_lt_of_cell? w _ hw161_2)).trans hw161_2), ((HB.out.cell (World.block_lt_of_cell? w _ hw163_0)).trans hw163_0), ((HB.out.cell (World.block_lt_of_cell? w _ hw163_1)).trans hw163_1), ((HB.out.cell (World.block_lt_of_cell? w _ hw163_2)).trans hw163_2), ((HB.out.cell (World.block_lt_of_cell? w _ hw165_0)).trans hw165_0), ((HB.out.cell (World.block_lt_of_cell? w _ hw165_1)).trans hw165_1), ((HB.out.cell (World.block_lt_of_cell? w _ hw165_2)).trans hw165_2)⟩ (fun hHeld => ?_)
         clear hK K
         refine norm_ (a' := ?_) ?_ ?_
         rotate_left
         ·show Act.put _ (some 24) _ = _
          simp only [Act.put, List.setIfInBounds_toArray, List.set_cons_zero, List.set_cons_succ, i64_w, i32_w]
          rfl
         refine pA_ 14 25 x4tr43_15 HT_.out ?_
         refine pA_ 15 26 x4tr43_16 HT_.out ?_
         refine pA_ 16 27 x4tr43_17 HT_.out ?_
         refine pA_ 17 28 x4tr43_18 HT_.out ?_
         refine pA_ 18 29 x4tr43_19 HT_.out ?_
         refine pA_ 19 30 x4tr43_20 HT_.out ?_
         refine pA_ 20 31 x4tr43_21 HT_.out ?_
         refine take_ (i := 21) (N := some 32) (v := ?_) (a' := ?_) x4tr43_22 rfl rfl (take_ofW HT_.out HW_.out (by kernel_rfl)) (fun _ _ _ h => h) (Or.inl ⟨by rfl, ?_⟩) hHeld ?_ ?_
         rotate_left
         ·rintro w' ⟨s0, s1, s2, s3, s4, s5, s6, s7, s8⟩
          go_simp
          with_reducible rfl
         rotate_left
         ·simp only [Act.put, List.setIfInBounds_toArray, List.set_cons_zero, List.set_cons_succ, i64_w, i32_w]
          rfl
         refine one_ (i := 22) (N := some 33) x4tr43_23 rfl rfl (one_of HT_.out (by kernel_rfl)) (by decide) (fun K hK => ?_)
         refine goes_ Try.func18 (by kernel_rfl) rfl #[.int .i64 ((rd_T34 l0 x3_1).f2)] (by rfl) rfl rfl (by (try simp only [List.map_toArray, List.map_cons, List.map_nil]); first | done | rfl | (simp only [List.length_drop, List.length_take]; rfl)) ?_
         with_reducible refine (cantonref10_number.calls ((rd_T34 l0 x3_1).f2) false _ A9.out).mono ?_
         rintro e w' ⟨rfl, ⟨nd, rfl⟩⟩
         refine ⟨_, rfl, ?_⟩
         refine hK.out _ _ ⟨((HB.out.cell (World.block_lt_of_cell? w _ hw161_0)).trans hw161_0), ((HB.out.cell (World.block_lt_of_cell? w _ hw161_1)).trans hw161_1), ((HB.out.cell (World.block_lt_of_cell? w _ hw161_2)).trans hw161_2), ((HB.out.cell (World.block_lt_of_cell? w _ hw163_0)).trans hw163_0), ((HB.out.cell (World.block_lt_of_cell? w _ hw163_1)).trans hw163_1), ((HB.out.cell (World.block_lt_of_cell? w _ hw163_2)).trans hw163_2), ((HB.out.cell (World.block_lt_of_cell? w _ hw165_0)).trans hw165_0), ((HB.out.cell (World.block_lt_of_cell? w _ hw165_1)).trans hw165_1), ((HB.out.cell (World.block_lt_of_cell? w _ hw165_2)).trans hw165_2)⟩ (fun hHeld => ?_)
         clear hK K
         refine norm_ (a' := ?_) ?_ ?_
         rotate_left
         ·show Act.put _ (some 33) _ = _
          simp only [Act.put, List.setIfInBounds_toArray, List.set_cons_zero, List.set_cons_succ, i64_w, i32_w]
          rfl
         refine pA_ 23 34 x4tr43_24 HT_.out ?_
         refine pA_ 24 35 x4tr43_25 HT_.out ?_
         refine pA_ 25 36 x4tr43_26 HT_.out ?_
         refine pU_ 26 37 x4tr43_27 HT_.out ?_
         refine pU_ 27 38 x4tr43_28 HT_.out ?_
         refine pU_ 28 39 x4tr43_29 HT_.out ?_
         refine pU_ 29 40 x4tr43_30 HT_.out ?_
         refine pU_ 30 41 x4tr43_31 HT_.out ?_
         refine pU_ 31 42 x4tr43_32 HT_.out ?_
         refine pU_ 32 43 x4tr43_33 HT_.out ?_
         refine pU_ 33 44 x4tr43_34 HT_.out ?_
         refine pU_ 34 45 x4tr43_35 HT_.out ?_
         refine pU_ 35 46 x4tr43_36 HT_.out ?_
         refine pU_ 36 47 x4tr43_37 HT_.out ?_
         refine pU_ 37 48 x4tr43_38 HT_.out ?_
         refine pU_ 38 49 x4tr43_39 HT_.out ?_
         refine pU_ 39 50 x4tr43_40 HT_.out ?_
         refine pU_ 40 51 x4tr43_41 HT_.out ?_
         refine pU_ 41 52 x4tr43_42 HT_.out ?_
         refine pA_ 42 53 x4tr43_43 HT_.out ?_
         refine done_ (done_of HT_.out (by kernel_rfl)) ?_
         try go_wp2
         go_meet
         case rel => exact ⟨_, (true), (by first | rfl | (simp; done) | (simp [*]; done)), H', ⟨by have := HK1.out; first | omega | exact Nat.le_refl _⟩, ⟨kZ HB⟩⟩
       ·replace c8 := Bool.eq_false_iff.mpr c8
        subst c8
        have H1 : (cantonref10_Right.j1 k1 l0 x3_1 true) = some r := by rw [if_neg (show ¬ (false = true) by decide)] at H; exact H
        clear H
        have H := H1
        clear H1
        have H' := Aside0.mk H
        clear H
        try go_wp2
        have n0_ := Aside0.mk (below_drew1 HB.out)
        clear HB
        have HB := n0_
        clear n0_
        have p161 : 0 ≤ (x3_1 : Int) := of_decide_eq_true (by first | (with_reducible assumption) | assumption)
        have q161 : x3_1 < (l0.length : Int) := of_decide_eq_true (by first | (with_reducible assumption) | assumption)
        obtain ⟨ad161, e161, hx161_0, hx161_1, hx161_2⟩ := at_T34 HR0.out x3_1 p161 q161
        have hw161_2 := hx161_2
        have hw161_1 := hx161_1
        have hw161_0 := hx161_0
        cases e161
        replace hx161_0 := (HB.out.cell (World.block_lt_of_cell? w _ hx161_0)).trans hx161_0
        replace hx161_1 := (HB.out.cell (World.block_lt_of_cell? w _ hx161_1)).trans hx161_1
        replace hx161_2 := (HB.out.cell (World.block_lt_of_cell? w _ hx161_2)).trans hx161_2
        replace p161 := eq_true p161
        replace q161 := eq_true q161
        have p163 : 0 ≤ (x3_1 : Int) := of_decide_eq_true (by first | (with_reducible assumption) | assumption)
        have q163 : x3_1 < (l0.length : Int) := of_decide_eq_true (by first | (with_reducible assumption) | assumption)
        obtain ⟨ad163, e163, hx163_0, hx163_1, hx163_2⟩ := at_T34 HR0.out x3_1 p163 q163
        have hw163_2 := hx163_2
        have hw163_1 := hx163_1
        have hw163_0 := hx163_0
        obtain rfl : ad161 = ad163 := (by injection e163)
        replace hx163_0 := (HB.out.cell (World.block_lt_of_cell? w _ hx163_0)).trans hx163_0
        replace hx163_1 := (HB.out.cell (World.block_lt_of_cell? w _ hx163_1)).trans hx163_1
        replace hx163_2 := (HB.out.cell (World.block_lt_of_cell? w _ hx163_2)).trans hx163_2
        replace p163 := eq_true p163
        replace q163 := eq_true q163
        refine start_ (n := 43) (S := fun w' => w'.cell? (ad161.add ((x3_1).toNat * 3)) = some (.string ((rd_T34 l0 x3_1).f0)) ∧ w'.cell? ⟨(ad161.add ((x3_1).toNat * 3)).block, (ad161.add ((x3_1).toNat * 3)).off + 1, none⟩ = some (.int .i64 ((rd_T34 l0 x3_1).f1)) ∧ w'.cell? ⟨(ad161.add ((x3_1).toNat * 3)).block, (ad161.add ((x3_1).toNat * 3)).off + 2, none⟩ = some (.int .i64 ((rd_T34 l0 x3_1).f2)) ∧ w'.cell? (ad161.add ((x3_1).toNat * 3)) = some (.string ((rd_T34 l0 x3_1).f0)) ∧ w'.cell? ⟨(ad161.add ((x3_1).toNat * 3)).block, (ad161.add ((x3_1).toNat * 3)).off + 1, none⟩ = some (.int .i64 ((rd_T34 l0 x3_1).f1)) ∧ w'.cell? ⟨(ad161.add ((x3_1).toNat * 3)).block, (ad161.add ((x3_1).toNat * 3)).off + 2, none⟩ = some (.int .i64 ((rd_T34 l0 x3_1).f2))) (ds := []) x4tr43_0 (by kernel_rfl) rfl rfl ⟨((HB.out.cell (World.block_lt_of_cell? w _ hw161_0)).trans hw161_0), ((HB.out.cell (World.block_lt_of_cell? w _ hw161_1)).trans hw161_1), ((HB.out.cell (World.block_lt_of_cell? w _ hw161_2)).trans hw161_2), ((HB.out.cell (World.block_lt_of_cell? w _ hw163_0)).trans hw163_0), ((HB.out.cell (World.block_lt_of_cell? w _ hw163_1)).trans hw163_1), ((HB.out.cell (World.block_lt_of_cell? w _ hw163_2)).trans hw163_2)⟩ (fun hHeld => ?_); refine with_tabW cantonref10_Right.tab4 cantonref10_Right.bits4 (fun HT_ HW_ => ?_)
        generalize wr.drew = w21 at HB hx161_0 hx161_1 hx161_2 hx163_0 hx163_1 hx163_2 hHeld ⊢
        refine pA_ 0 11 x4tr43_1 HT_.out ?_
        refine pA_ 1 12 x4tr43_2 HT_.out ?_
        refine pA_ 2 13 x4tr43_3 HT_.out ?_
        refine pA_ 3 14 x4tr43_4 HT_.out ?_
        refine take_ (i := 4) (N := some 15) (v := ?_) (a' := ?_) x4tr43_5 rfl rfl (take_ofW HT_.out HW_.out (by kernel_rfl)) (fun _ _ _ h => h) (Or.inl ⟨by rfl, ?_⟩) hHeld ?_ ?_
        rotate_left
        ·rintro w' ⟨s0, s1, s2, s3, s4, s5⟩
         go_simp
         with_reducible rfl
        rotate_left
        ·simp only [Act.put, List.setIfInBounds_toArray, List.set_cons_zero, List.set_cons_succ, i64_w, i32_w]
         rfl
        refine one_ (i := 5) (N := some 16) x4tr43_6 rfl rfl (one_of HT_.out (by kernel_rfl)) (by decide) (fun K hK => ?_)
        refine goes_ Try.func17 (by kernel_rfl) rfl #[.string ((rd_T34 l0 x3_1).f0)] (by rfl) rfl rfl (by (try simp only [List.map_toArray, List.map_cons, List.map_nil]); first | done | rfl | (simp only [List.length_drop, List.length_take]; rfl)) ?_
        with_reducible refine (cantonref01_Right.calls k1 ((rd_T34 l0 x3_1).f0) true _ A5.out).mono ?_
        rintro e w22 ⟨rfl, hb⟩
        refine ⟨_, rfl, ?_⟩
        have n0_ := Aside0.mk (below_step (kZ HB) hb)
        clear HB
        have HB := n0_
        clear n0_
        (try clear hb)
        (try clear hb2)
        (try clear hk)
        (try clear hi)
        refine hK.out _ _ ⟨((HB.out.cell (World.block_lt_of_cell? w _ hw161_0)).trans hw161_0), ((HB.out.cell (World.block_lt_of_cell? w _ hw161_1)).trans hw161_1), ((HB.out.cell (World.block_lt_of_cell? w _ hw161_2)).trans hw161_2), ((HB.out.cell (World.block_lt_of_cell? w _ hw163_0)).trans hw163_0), ((HB.out.cell (World.block_lt_of_cell? w _ hw163_1)).trans hw163_1), ((HB.out.cell (World.block_lt_of_cell? w _ hw163_2)).trans hw163_2)⟩ (fun hHeld => ?_)
        clear hK K
        refine norm_ (a' := ?_) ?_ ?_
        rotate_left
        ·show Act.put _ (some 16) _ = _
         simp only [Act.put, List.setIfInBounds_toArray, List.set_cons_zero, List.set_cons_succ, i64_w, i32_w]
         rfl
        refine pA_ 6 17 x4tr43_7 HT_.out ?_
        refine pA_ 7 18 x4tr43_8 HT_.out ?_
        refine pA_ 8 19 x4tr43_9 HT_.out ?_
        refine pA_ 9 20 x4tr43_10 HT_.out ?_
        refine pA_ 10 21 x4tr43_11 HT_.out ?_
        refine pA_ 11 22 x4tr43_12 HT_.out ?_
        refine take_ (i := 12) (N := some 23) (v := ?_) (a' := ?_) x4tr43_13 rfl rfl (take_ofW HT_.out HW_.out (by kernel_rfl)) (fun _ _ _ h => h) (Or.inl ⟨by rfl, ?_⟩) hHeld ?_ ?_
        rotate_left
        ·rintro w' ⟨s0, s1, s2, s3, s4, s5⟩
         go_simp
         with_reducible rfl
        rotate_left
        ·simp only [Act.put, List.setIfInBounds_toArray, List.set_cons_zero, List.set_cons_succ, i64_w, i32_w]
         rfl
        refine one_ (i := 13) (N := some 24) x4tr43_14 rfl rfl (one_of HT_.out (by kernel_rfl)) (by decide) (fun K hK => ?_)
        refine goes_ Try.func18 (by kernel_rfl) rfl #[.int .i64 ((rd_T34 l0 x3_1).f1)] (by rfl) rfl rfl (by (try simp only [List.map_toArray, List.map_cons, List.map_nil]); first | done | rfl | (simp only [List.length_drop, List.length_take]; rfl)) ?_
        with_reducible refine (cantonref10_number.calls ((rd_T34 l0 x3_1).f1) false _ A7.out).mono ?_
        rintro e w' ⟨rfl, ⟨nd, rfl⟩⟩
        refine ⟨_, rfl, ?_⟩
        refine hK.out _ _ ⟨((HB.out.cell (World.block_lt_of_cell? w _ hw161_0)).trans hw161_0), ((HB.out.cell (World.block_lt_of_cell? w _ hw161_1)).trans hw161_1), ((HB.out.cell (World.block_lt_of_cell? w _ hw161_2)).trans hw161_2), ((HB.out.cell (World.block_lt_of_cell? w _ hw163_0)).trans hw163_0), ((HB.out.cell (World.block_lt_of_cell? w _ hw163_1)).trans hw163_1), ((HB.out.cell (World.block_lt_of_cell? w _ hw163_2)).trans hw163_2)⟩ (fun hHeld => ?_)
        clear hK K
        refine norm_ (a' := ?_) ?_ ?_
        rotate_left
        ·show Act.put _ (some 24) _ = _
         simp only [Act.put, List.setIfInBounds_toArray, List.set_cons_zero, List.set_cons_succ, i64_w, i32_w]
         rfl
        refine pA_ 14 25 x4tr43_15 HT_.out ?_
        refine pA_ 15 26 x4tr43_16 HT_.out ?_
        refine pA_ 16 27 x4tr43_17 HT_.out ?_
        refine pU_ 17 28 x4tr43_18 HT_.out ?_
        refine pU_ 18 29 x4tr43_19 HT_.out ?_
        refine pU_ 19 30 x4tr43_20 HT_.out ?_
        refine pU_ 20 31 x4tr43_21 HT_.out ?_
        refine pU_ 21 32 x4tr43_22 HT_.out ?_
        refine pU_ 22 33 x4tr43_23 HT_.out ?_
        refine pU_ 23 34 x4tr43_24 HT_.out ?_
        refine pA_ 24 35 x4tr43_25 HT_.out ?_
        refine pA_ 25 36 x4tr43_26 HT_.out ?_
        refine pU_ 26 37 x4tr43_27 HT_.out ?_
        refine pU_ 27 38 x4tr43_28 HT_.out ?_
        refine pU_ 28 39 x4tr43_29 HT_.out ?_
        refine pU_ 29 40 x4tr43_30 HT_.out ?_
        refine pU_ 30 41 x4tr43_31 HT_.out ?_
        refine pU_ 31 42 x4tr43_32 HT_.out ?_
        refine pU_ 32 43 x4tr43_33 HT_.out ?_
        refine pU_ 33 44 x4tr43_34 HT_.out ?_
        refine pU_ 34 45 x4tr43_35 HT_.out ?_
        refine pU_ 35 46 x4tr43_36 HT_.out ?_
        refine pU_ 36 47 x4tr43_37 HT_.out ?_
        refine pU_ 37 48 x4tr43_38 HT_.out ?_
        refine pU_ 38 49 x4tr43_39 HT_.out ?_
        refine pU_ 39 50 x4tr43_40 HT_.out ?_
        refine pU_ 40 51 x4tr43_41 HT_.out ?_
        refine pU_ 41 52 x4tr43_42 HT_.out ?_
        refine pA_ 42 53 x4tr43_43 HT_.out ?_
        refine done_ (done_of HT_.out (by kernel_rfl)) ?_
        try go_wp2
        go_meet
        case rel => exact ⟨_, (true), (by first | rfl | (simp; done) | (simp [*]; done)), H', ⟨by have := HK1.out; first | omega | exact Nat.le_refl _⟩, ⟨kZ HB⟩⟩
      ·replace c6 := Bool.eq_false_iff.mpr c6
       subst c6
       have H1 : (cantonref10_Right.j1 k1 l0 x3_1 true) = some r := by rw [if_neg (show ¬ (false = true) by decide)] at H; exact H
       clear H
       have H := H1
       clear H1
       have H' := Aside0.mk H
       clear H
       try go_wp2
       have n0_ := Aside0.mk (below_drew1 HB.out)
       clear HB
       have HB := n0_
       clear n0_
       have p161 : 0 ≤ (x3_1 : Int) := of_decide_eq_true (by first | (with_reducible assumption) | assumption)
       have q161 : x3_1 < (l0.length : Int) := of_decide_eq_true (by first | (with_reducible assumption) | assumption)
       obtain ⟨ad161, e161, hx161_0, hx161_1, hx161_2⟩ := at_T34 HR0.out x3_1 p161 q161
       have hw161_2 := hx161_2
       have hw161_1 := hx161_1
       have hw161_0 := hx161_0
       cases e161
       replace hx161_0 := (HB.out.cell (World.block_lt_of_cell? w _ hx161_0)).trans hx161_0
       replace hx161_1 := (HB.out.cell (World.block_lt_of_cell? w _ hx161_1)).trans hx161_1
       replace hx161_2 := (HB.out.cell (World.block_lt_of_cell? w _ hx161_2)).trans hx161_2
       replace p161 := eq_true p161
       replace q161 := eq_true q161
       refine start_ (n := 43) (S := fun w' => w'.cell? (ad161.add ((x3_1).toNat * 3)) = some (.string ((rd_T34 l0 x3_1).f0)) ∧ w'.cell? ⟨(ad161.add ((x3_1).toNat * 3)).block, (ad161.add ((x3_1).toNat * 3)).off + 1, none⟩ = some (.int .i64 ((rd_T34 l0 x3_1).f1)) ∧ w'.cell? ⟨(ad161.add ((x3_1).toNat * 3)).block, (ad161.add ((x3_1).toNat * 3)).off + 2, none⟩ = some (.int .i64 ((rd_T34 l0 x3_1).f2))) (ds := []) x4tr43_0 (by kernel_rfl) rfl rfl ⟨((HB.out.cell (World.block_lt_of_cell? w _ hw161_0)).trans hw161_0), ((HB.out.cell (World.block_lt_of_cell? w _ hw161_1)).trans hw161_1), ((HB.out.cell (World.block_lt_of_cell? w _ hw161_2)).trans hw161_2)⟩ (fun hHeld => ?_); refine with_tabW cantonref10_Right.tab4 cantonref10_Right.bits4 (fun HT_ HW_ => ?_)
       generalize wr.drew = w23 at HB hx161_0 hx161_1 hx161_2 hHeld ⊢
       refine pA_ 0 11 x4tr43_1 HT_.out ?_
       refine pA_ 1 12 x4tr43_2 HT_.out ?_
       refine pA_ 2 13 x4tr43_3 HT_.out ?_
       refine pA_ 3 14 x4tr43_4 HT_.out ?_
       refine take_ (i := 4) (N := some 15) (v := ?_) (a' := ?_) x4tr43_5 rfl rfl (take_ofW HT_.out HW_.out (by kernel_rfl)) (fun _ _ _ h => h) (Or.inl ⟨by rfl, ?_⟩) hHeld ?_ ?_
       rotate_left
       ·rintro w' ⟨s0, s1, s2⟩
        go_simp
        with_reducible rfl
       rotate_left
       ·simp only [Act.put, List.setIfInBounds_toArray, List.set_cons_zero, List.set_cons_succ, i64_w, i32_w]
        rfl
       refine one_ (i := 5) (N := some 16) x4tr43_6 rfl rfl (one_of HT_.out (by kernel_rfl)) (by decide) (fun K hK => ?_)
       refine goes_ Try.func17 (by kernel_rfl) rfl #[.string ((rd_T34 l0 x3_1).f0)] (by rfl) rfl rfl (by (try simp only [List.map_toArray, List.map_cons, List.map_nil]); first | done | rfl | (simp only [List.length_drop, List.length_take]; rfl)) ?_
       with_reducible refine (cantonref01_Right.calls k1 ((rd_T34 l0 x3_1).f0) false _ A5.out).mono ?_
       rintro e w24 ⟨rfl, hb⟩
       refine ⟨_, rfl, ?_⟩
       have n0_ := Aside0.mk (below_step (kZ HB) hb)
       clear HB
       have HB := n0_
       clear n0_
       (try clear hb)
       (try clear hb2)
       (try clear hk)
       (try clear hi)
       refine hK.out _ _ ⟨((HB.out.cell (World.block_lt_of_cell? w _ hw161_0)).trans hw161_0), ((HB.out.cell (World.block_lt_of_cell? w _ hw161_1)).trans hw161_1), ((HB.out.cell (World.block_lt_of_cell? w _ hw161_2)).trans hw161_2)⟩ (fun hHeld => ?_)
       clear hK K
       refine norm_ (a' := ?_) ?_ ?_
       rotate_left
       ·show Act.put _ (some 16) _ = _
        simp only [Act.put, List.setIfInBounds_toArray, List.set_cons_zero, List.set_cons_succ, i64_w, i32_w]
        rfl
       refine pA_ 6 17 x4tr43_7 HT_.out ?_
       refine pA_ 7 18 x4tr43_8 HT_.out ?_
       refine pU_ 8 19 x4tr43_9 HT_.out ?_
       refine pU_ 9 20 x4tr43_10 HT_.out ?_
       refine pU_ 10 21 x4tr43_11 HT_.out ?_
       refine pU_ 11 22 x4tr43_12 HT_.out ?_
       refine pU_ 12 23 x4tr43_13 HT_.out ?_
       refine pU_ 13 24 x4tr43_14 HT_.out ?_
       refine pU_ 14 25 x4tr43_15 HT_.out ?_
       refine pA_ 15 26 x4tr43_16 HT_.out ?_
       refine pA_ 16 27 x4tr43_17 HT_.out ?_
       refine pU_ 17 28 x4tr43_18 HT_.out ?_
       refine pU_ 18 29 x4tr43_19 HT_.out ?_
       refine pU_ 19 30 x4tr43_20 HT_.out ?_
       refine pU_ 20 31 x4tr43_21 HT_.out ?_
       refine pU_ 21 32 x4tr43_22 HT_.out ?_
       refine pU_ 22 33 x4tr43_23 HT_.out ?_
       refine pU_ 23 34 x4tr43_24 HT_.out ?_
       refine pA_ 24 35 x4tr43_25 HT_.out ?_
       refine pA_ 25 36 x4tr43_26 HT_.out ?_
       refine pU_ 26 37 x4tr43_27 HT_.out ?_
       refine pU_ 27 38 x4tr43_28 HT_.out ?_
       refine pU_ 28 39 x4tr43_29 HT_.out ?_
       refine pU_ 29 40 x4tr43_30 HT_.out ?_
       refine pU_ 30 41 x4tr43_31 HT_.out ?_
       refine pU_ 31 42 x4tr43_32 HT_.out ?_
       refine pU_ 32 43 x4tr43_33 HT_.out ?_
       refine pU_ 33 44 x4tr43_34 HT_.out ?_
       refine pU_ 34 45 x4tr43_35 HT_.out ?_
       refine pU_ 35 46 x4tr43_36 HT_.out ?_
       refine pU_ 36 47 x4tr43_37 HT_.out ?_
       refine pU_ 37 48 x4tr43_38 HT_.out ?_
       refine pU_ 38 49 x4tr43_39 HT_.out ?_
       refine pU_ 39 50 x4tr43_40 HT_.out ?_
       refine pU_ 40 51 x4tr43_41 HT_.out ?_
       refine pU_ 41 52 x4tr43_42 HT_.out ?_
       refine pA_ 42 53 x4tr43_43 HT_.out ?_
       refine done_ (done_of HT_.out (by kernel_rfl)) ?_
       try go_wp2
       go_meet
       case rel => exact ⟨_, (true), (by first | rfl | (simp; done) | (simp [*]; done)), H', ⟨by have := HK1.out; first | omega | exact Nat.le_refl _⟩, ⟨kZ HB⟩⟩
     ·rw [if_neg c4] at H
      exact absurd H (by simp)
    case rest =>
     clear HC3
     try clear c1
     try clear p1
     try clear q1
     try clear hx1
     try clear p2
     try clear c4
     try clear c6
     try clear c8
     try clear p16
     try clear q16
     try clear hx16
     try clear c17
     try clear c18
     try clear hx161_0
     try clear hx161_1
     try clear hx161_2
     try clear hx163_0
     try clear hx163_1
     try clear hx163_2
     try clear p161
     try clear p163
     try clear q161
     try clear q163
     obtain ⟨kq, x53_2, rfl, HA, HJ2, HB⟩ := hcut
     cases kq with
     | zero => exact absurd HA.out (by simp [cantonref10_Right.j1])
     | succ kj2 =>
      have H := HA.out
      clear HA
      simp only [cantonref10_Right.j1] at H
      by_cases c25 : x53_2 = true
      ·subst c25
       have H1 : (some false) = some r := by rw [if_pos rfl] at H; exact H
       clear H
       have H := H1
       clear H1
       obtain rfl := Option.some.inj H
       go_wp2
       go_ret
       exact ⟨by first | rfl | (simp [errW_none, errW_some] <;> rfl) | (simp [*, errW_none, errW_some] <;> rfl), kZ HB⟩
      ·replace c25 := Bool.eq_false_iff.mpr c25
       subst c25
       have H1 : (cantonref10_Right.l1 kj2 l0 x3_1 0) = some r := by rw [if_neg (show ¬ (false = true) by decide)] at H; exact H
       clear H
       have H := H1
       clear H1
       have H' := Aside0.mk H
       clear H
       go_wp2
       go_loopg [4] kj2 (fun kq v4 w' => ∃ (x4_3 : Int), v4 = .int .i64 x4_3 ∧ Aside0 (cantonref10_Right.l1 kq l0 x3_1 x4_3 = some r) ∧ Aside0 (kq ≤ kj2) ∧ Aside0 (Below w.heap.size w w'))
       case atStart => exact ⟨(0), (by first | rfl | (simp; done) | (simp [*]; done)), H', ⟨Nat.le_refl _⟩, ⟨kZ HB⟩⟩
       case round =>
        clear H'
        try clear c1
        try clear p1
        try clear q1
        try clear hx1
        try clear c2
        try clear p2
        try clear c4
        try clear c6
        try clear c8
        try clear p16
        try clear q16
        try clear hx16
        try clear c17
        try clear c18
        try clear c25
        try clear hx161_0
        try clear hx161_1
        try clear hx161_2
        try clear hx163_0
        try clear hx163_1
        try clear hx163_2
        try clear p1
        try clear p16
        try clear p161
        try clear p163
        try clear p2
        try clear q1
        try clear q16
        try clear q161
        try clear q163
        obtain ⟨x4_3, rfl, HA, HK3, HB⟩ := hrel
        cases gk with
        | zero => exact absurd HA.out (by simp [cantonref10_Right.l1])
        | succ k3 =>
         have H := HA.out
         clear HA
         simp only [cantonref10_Right.l1] at H
         by_cases c26 : x4_3 < x3_1
         ·rw [if_pos c26] at H
          have c26b0 : decide (x4_3 < x3_1) = true := decide_eq_true c26
          clear c26
          by_cases c27 : 0 ≤ x4_3
          ·rw [if_pos c27] at H
           have c27b0 : decide (0 ≤ x4_3) = true := decide_eq_true c27
           clear c27
           by_cases c28 : x4_3 < (l0.length : Int)
           ·rw [if_pos c28] at H
            have c28b0 : decide (x4_3 < (l0.length : Int)) = true := decide_eq_true c28
            clear c28
            by_cases c29 : 0 ≤ x3_1
            ·rw [if_pos c29] at H
             have c29b0 : decide (0 ≤ x3_1) = true := decide_eq_true c29
             clear c29
             by_cases c30 : x3_1 < (l0.length : Int)
             ·rw [if_pos c30] at H
              have c30b0 : decide (x3_1 < (l0.length : Int)) = true := decide_eq_true c30
              clear c30
              by_cases c31 : ((rd_T34 l0 x4_3).f1) = ((rd_T34 l0 x3_1).f1)
              ·rw [if_pos c31] at H
               have c31b0 : (((rd_T34 l0 x4_3).f1) == ((rd_T34 l0 x3_1).f1)) = true := beq_iff_eq.mpr c31
               have c31b1 : (((rd_T34 l0 x4_3).f1) != ((rd_T34 l0 x3_1).f1)) = false := bne_eq_false_iff_eq.mpr c31
               clear c31
               by_cases c32 : ((rd_T34 l0 x4_3).f2) = ((rd_T34 l0 x3_1).f2)
               ·rw [if_pos c32] at H
                have c32b0 : (((rd_T34 l0 x4_3).f2) == ((rd_T34 l0 x3_1).f2)) = true := beq_iff_eq.mpr c32
                have c32b1 : (((rd_T34 l0 x4_3).f2) != ((rd_T34 l0 x3_1).f2)) = false := bne_eq_false_iff_eq.mpr c32
                clear c32
                have H' := Aside0.mk H
                clear H
                try go_wp2
                have n0_ := Aside0.mk (below_drew1 HB.out)
                clear HB
                have HB := n0_
                clear n0_
                have p169 : 0 ≤ (x4_3 : Int) := of_decide_eq_true (by first | (with_reducible assumption) | assumption)
                have q169 : x4_3 < (l0.length : Int) := of_decide_eq_true (by first | (with_reducible assumption) | assumption)
                obtain ⟨ad169, e169, hx169_0, hx169_1, hx169_2⟩ := at_T34 HR0.out x4_3 p169 q169
                have hw169_2 := hx169_2
                have hw169_1 := hx169_1
                have hw169_0 := hx169_0
                cases e169
                replace hx169_0 := (HB.out.cell (World.block_lt_of_cell? w _ hx169_0)).trans hx169_0
                replace hx169_1 := (HB.out.cell (World.block_lt_of_cell? w _ hx169_1)).trans hx169_1
                replace hx169_2 := (HB.out.cell (World.block_lt_of_cell? w _ hx169_2)).trans hx169_2
                replace p169 := eq_true p169
                replace q169 := eq_true q169
                have p170 : 0 ≤ (x3_1 : Int) := of_decide_eq_true (by first | (with_reducible assumption) | assumption)
                have q170 : x3_1 < (l0.length : Int) := of_decide_eq_true (by first | (with_reducible assumption) | assumption)
                obtain ⟨ad170, e170, hx170_0, hx170_1, hx170_2⟩ := at_T34 HR0.out x3_1 p170 q170
                have hw170_2 := hx170_2
                have hw170_1 := hx170_1
                have hw170_0 := hx170_0
                obtain rfl : ad169 = ad170 := (by injection e170)
                replace hx170_0 := (HB.out.cell (World.block_lt_of_cell? w _ hx170_0)).trans hx170_0
                replace hx170_1 := (HB.out.cell (World.block_lt_of_cell? w _ hx170_1)).trans hx170_1
                replace hx170_2 := (HB.out.cell (World.block_lt_of_cell? w _ hx170_2)).trans hx170_2
                replace p170 := eq_true p170
                replace q170 := eq_true q170
                have p171 : 0 ≤ (x4_3 : Int) := of_decide_eq_true (by first | (with_reducible assumption) | assumption)
                have q171 : x4_3 < (l0.length : Int) := of_decide_eq_true (by first | (with_reducible assumption) | assumption)
                obtain ⟨ad171, e171, hx171_0, hx171_1, hx171_2⟩ := at_T34 HR0.out x4_3 p171 q171
                have hw171_2 := hx171_2
                have hw171_1 := hx171_1
                have hw171_0 := hx171_0
                obtain rfl : ad169 = ad171 := (by injection e171)
                replace hx171_0 := (HB.out.cell (World.block_lt_of_cell? w _ hx171_0)).trans hx171_0
                replace hx171_1 := (HB.out.cell (World.block_lt_of_cell? w _ hx171_1)).trans hx171_1
                replace hx171_2 := (HB.out.cell (World.block_lt_of_cell? w _ hx171_2)).trans hx171_2
                replace p171 := eq_true p171
                replace q171 := eq_true q171
                have p172 : 0 ≤ (x3_1 : Int) := of_decide_eq_true (by first | (with_reducible assumption) | assumption)
                have q172 : x3_1 < (l0.length : Int) := of_decide_eq_true (by first | (with_reducible assumption) | assumption)
                obtain ⟨ad172, e172, hx172_0, hx172_1, hx172_2⟩ := at_T34 HR0.out x3_1 p172 q172
                have hw172_2 := hx172_2
                have hw172_1 := hx172_1
                have hw172_0 := hx172_0
                obtain rfl : ad169 = ad172 := (by injection e172)
                replace hx172_0 := (HB.out.cell (World.block_lt_of_cell? w _ hx172_0)).trans hx172_0
                replace hx172_1 := (HB.out.cell (World.block_lt_of_cell? w _ hx172_1)).trans hx172_1
                replace hx172_2 := (HB.out.cell (World.block_lt_of_cell? w _ hx172_2)).trans hx172_2
                replace p172 := eq_true p172
                replace q172 := eq_true q172
                refine start_ (n := 24) (S := fun w' => w'.cell? (ad169.add ((x4_3).toNat * 3)) = some (.string ((rd_T34 l0 x4_3).f0)) ∧ w'.cell? ⟨(ad169.add ((x4_3).toNat * 3)).block, (ad169.add ((x4_3).toNat * 3)).off + 1, none⟩ = some (.int .i64 ((rd_T34 l0 x4_3).f1)) ∧ w'.cell? ⟨(ad169.add ((x4_3).toNat * 3)).block, (ad169.add ((x4_3).toNat * 3)).off + 2, none⟩ = some (.int .i64 ((rd_T34 l0 x4_3).f2)) ∧ w'.cell? (ad169.add ((x3_1).toNat * 3)) = some (.string ((rd_T34 l0 x3_1).f0)) ∧ w'.cell? ⟨(ad169.add ((x3_1).toNat * 3)).block, (ad169.add ((x3_1).toNat * 3)).off + 1, none⟩ = some (.int .i64 ((rd_T34 l0 x3_1).f1)) ∧ w'.cell? ⟨(ad169.add ((x3_1).toNat * 3)).block, (ad169.add ((x3_1).toNat * 3)).off + 2, none⟩ = some (.int .i64 ((rd_T34 l0 x3_1).f2)) ∧ w'.cell? (ad169.add ((x4_3).toNat * 3)) = some (.string ((rd_T34 l0 x4_3).f0)) ∧ w'.cell? ⟨(ad169.add ((x4_3).toNat * 3)).block, (ad169.add ((x4_3).toNat * 3)).off + 1, none⟩ = some (.int .i64 ((rd_T34 l0 x4_3).f1)) ∧ w'.cell? ⟨(ad169.add ((x4_3).toNat * 3)).block, (ad169.add ((x4_3).toNat * 3)).off + 2, none⟩ = some (.int .i64 ((rd_T34 l0 x4_3).f2)) ∧ w'.cell? (ad169.add ((x3_1).toNat * 3)) = some (.string ((rd_T34 l0 x3_1).f0)) ∧ w'.cell? ⟨(ad169.add ((x3_1).toNat * 3)).block, (ad169.add ((x3_1).toNat * 3)).off + 1, none⟩ = some (.int .i64 ((rd_T34 l0 x3_1).f1)) ∧ w'.cell? ⟨(ad169.add ((x3_1).toNat * 3)).block, (ad169.add ((x3_1).toNat * 3)).off + 2, none⟩ = some (.int .i64 ((rd_T34 l0 x3_1).f2))) (ds := []) x4tr24_0 (by kernel_rfl) rfl rfl ⟨((HB.out.cell (World.block_lt_of_cell? w _ hw169_0)).trans hw169_0), ((HB.out.cell (World.block_lt_of_cell? w _ hw169_1)).trans hw169_1), ((HB.out.cell (World.block_lt_of_cell? w _ hw169_2)).trans hw169_2), ((HB.out.cell (World.block_lt_of_cell? w _ hw170_0)).trans hw170_0), ((HB.out.cell (World.block_lt_of_cell? w _ hw170_1)).trans hw170_1), ((HB.out.cell (World.block_lt_of_cell? w _ hw170_2)).trans hw170_2), ((HB.out.cell (World.block_lt_of_cell? w _ hw171_0)).trans hw171_0), ((HB.out.cell (World.block_lt_of_cell? w _ hw171_1)).trans hw171_1), ((HB.out.cell (World.block_lt_of_cell? w _ hw171_2)).trans hw171_2), ((HB.out.cell (World.block_lt_of_cell? w _ hw172_0)).trans hw172_0), ((HB.out.cell (World.block_lt_of_cell? w _ hw172_1)).trans hw172_1), ((HB.out.cell (World.block_lt_of_cell? w _ hw172_2)).trans hw172_2)⟩ (fun hHeld => ?_); refine with_tabW cantonref10_Right.tab9 cantonref10_Right.bits9 (fun HT_ HW_ => ?_)
                generalize wr.drew = w33 at HB hx169_0 hx169_1 hx169_2 hx170_0 hx170_1 hx170_2 hx171_0 hx171_1 hx171_2 hx172_0 hx172_1 hx172_2 hHeld ⊢
                refine pA_ 0 59 x4tr24_1 HT_.out ?_
                refine pA_ 1 60 x4tr24_2 HT_.out ?_
                refine pA_ 2 61 x4tr24_3 HT_.out ?_
                refine pA_ 3 62 x4tr24_4 HT_.out ?_
                refine pA_ 5 64 x4tr24_m111101000000000000000000 HT_.out ?_
                refine pA_ 6 65 x4tr24_m111101100000000000000000 HT_.out ?_
                refine pA_ 7 66 x4tr24_m111101110000000000000000 HT_.out ?_
                refine pA_ 8 67 x4tr24_m111101111000000000000000 HT_.out ?_
                refine take_ (i := 4) (N := some 63) (v := ?_) (a' := ?_) x4tr24_9 rfl rfl (take_ofW HT_.out HW_.out (by kernel_rfl)) (fun _ _ _ h => h) (Or.inl ⟨by rfl, ?_⟩) hHeld ?_ ?_
                rotate_left
                ·rintro w' ⟨s0, s1, s2, s3, s4, s5, s6, s7, s8, s9, s10, s11⟩
                 go_simp
                 with_reducible rfl
                rotate_left
                ·simp only [Act.put, List.setIfInBounds_toArray, List.set_cons_zero, List.set_cons_succ, i64_w, i32_w]
                 rfl
                refine take_ (i := 9) (N := some 68) (v := ?_) (a' := ?_) x4tr24_10 rfl rfl (take_ofW HT_.out HW_.out (by kernel_rfl)) (fun _ _ _ h => h) (Or.inl ⟨by rfl, ?_⟩) hHeld ?_ ?_
                rotate_left
                ·rintro w' ⟨s0, s1, s2, s3, s4, s5, s6, s7, s8, s9, s10, s11⟩
                 go_simp
                 with_reducible rfl
                rotate_left
                ·simp only [Act.put, List.setIfInBounds_toArray, List.set_cons_zero, List.set_cons_succ, i64_w, i32_w]
                 rfl
                refine pA_ 10 69 x4tr24_11 HT_.out ?_
                refine pA_ 11 70 x4tr24_12 HT_.out ?_
                refine pA_ 12 71 x4tr24_13 HT_.out ?_
                refine pA_ 13 72 x4tr24_14 HT_.out ?_
                refine pA_ 14 73 x4tr24_15 HT_.out ?_
                refine pA_ 15 74 x4tr24_16 HT_.out ?_
                refine pA_ 17 76 x4tr24_m111111111111111101000000 HT_.out ?_
                refine pA_ 18 77 x4tr24_m111111111111111101100000 HT_.out ?_
                refine pA_ 19 78 x4tr24_m111111111111111101110000 HT_.out ?_
                refine pA_ 20 79 x4tr24_m111111111111111101111000 HT_.out ?_
                refine take_ (i := 16) (N := some 75) (v := ?_) (a' := ?_) x4tr24_21 rfl rfl (take_ofW HT_.out HW_.out (by kernel_rfl)) (fun _ _ _ h => h) (Or.inl ⟨by rfl, ?_⟩) hHeld ?_ ?_
                rotate_left
                ·rintro w' ⟨s0, s1, s2, s3, s4, s5, s6, s7, s8, s9, s10, s11⟩
                 go_simp
                 with_reducible rfl
                rotate_left
                ·simp only [Act.put, List.setIfInBounds_toArray, List.set_cons_zero, List.set_cons_succ, i64_w, i32_w]
                 rfl
                refine take_ (i := 21) (N := some 80) (v := ?_) (a' := ?_) x4tr24_22 rfl rfl (take_ofW HT_.out HW_.out (by kernel_rfl)) (fun _ _ _ h => h) (Or.inl ⟨by rfl, ?_⟩) hHeld ?_ ?_
                rotate_left
                ·rintro w' ⟨s0, s1, s2, s3, s4, s5, s6, s7, s8, s9, s10, s11⟩
                 go_simp
                 with_reducible rfl
                rotate_left
                ·simp only [Act.put, List.setIfInBounds_toArray, List.set_cons_zero, List.set_cons_succ, i64_w, i32_w]
                 rfl
                refine pA_ 22 81 x4tr24_23 HT_.out ?_
                refine pA_ 23 82 x4tr24_24 HT_.out ?_
                refine done_ (done_of HT_.out (by kernel_rfl)) ?_
                try go_wp2
                go_roundg k3
                case measure => have := HK1.out; have := HJ2.out; have := HK3.out; omega
                case rel => exact ⟨(wrap64 (x4_3 + 1)), (by first | rfl | (simp; done) | (simp [*]; done)), H', ⟨by have := HK1.out; have := HJ2.out; have := HK3.out; omega⟩, ⟨kZ HB⟩⟩
               ·rw [if_neg c32] at H
                have c32b0 : (((rd_T34 l0 x4_3).f2) == ((rd_T34 l0 x3_1).f2)) = false := beq_eq_false_iff_ne.mpr c32
                have c32b1 : (((rd_T34 l0 x4_3).f2) != ((rd_T34 l0 x3_1).f2)) = true := bne_iff_ne.mpr c32
                obtain rfl := Option.some.inj H
                try go_wp2
                have n0_ := Aside0.mk (below_drew1 HB.out)
                clear HB
                have HB := n0_
                clear n0_
                have p169 : 0 ≤ (x4_3 : Int) := of_decide_eq_true (by first | (with_reducible assumption) | assumption)
                have q169 : x4_3 < (l0.length : Int) := of_decide_eq_true (by first | (with_reducible assumption) | assumption)
                obtain ⟨ad169, e169, hx169_0, hx169_1, hx169_2⟩ := at_T34 HR0.out x4_3 p169 q169
                have hw169_2 := hx169_2
                have hw169_1 := hx169_1
                have hw169_0 := hx169_0
                cases e169
                replace hx169_0 := (HB.out.cell (World.block_lt_of_cell? w _ hx169_0)).trans hx169_0
                replace hx169_1 := (HB.out.cell (World.block_lt_of_cell? w _ hx169_1)).trans hx169_1
                replace hx169_2 := (HB.out.cell (World.block_lt_of_cell? w _ hx169_2)).trans hx169_2
                replace p169 := eq_true p169
                replace q169 := eq_true q169
                have p170 : 0 ≤ (x3_1 : Int) := of_decide_eq_true (by first | (with_reducible assumption) | assumption)
                have q170 : x3_1 < (l0.length : Int) := of_decide_eq_true (by first | (with_reducible assumption) | assumption)
                obtain ⟨ad170, e170, hx170_0, hx170_1, hx170_2⟩ := at_T34 HR0.out x3_1 p170 q170
                have hw170_2 := hx170_2
                have hw170_1 := hx170_1
                have hw170_0 := hx170_0
                obtain rfl : ad169 = ad170 := (by injection e170)
                replace hx170_0 := (HB.out.cell (World.block_lt_of_cell? w _ hx170_0)).trans hx170_0
                replace hx170_1 := (HB.out.cell (World.block_lt_of_cell? w _ hx170_1)).trans hx170_1
                replace hx170_2 := (HB.out.cell (World.block_lt_of_cell? w _ hx170_2)).trans hx170_2
                replace p170 := eq_true p170
                replace q170 := eq_true q170
                have p171 : 0 ≤ (x4_3 : Int) := of_decide_eq_true (by first | (with_reducible assumption) | assumption)
                have q171 : x4_3 < (l0.length : Int) := of_decide_eq_true (by first | (with_reducible assumption) | assumption)
                obtain ⟨ad171, e171, hx171_0, hx171_1, hx171_2⟩ := at_T34 HR0.out x4_3 p171 q171
                have hw171_2 := hx171_2
                have hw171_1 := hx171_1
                have hw171_0 := hx171_0
                obtain rfl : ad169 = ad171 := (by injection e171)
                replace hx171_0 := (HB.out.cell (World.block_lt_of_cell? w _ hx171_0)).trans hx171_0
                replace hx171_1 := (HB.out.cell (World.block_lt_of_cell? w _ hx171_1)).trans hx171_1
                replace hx171_2 := (HB.out.cell (World.block_lt_of_cell? w _ hx171_2)).trans hx171_2
                replace p171 := eq_true p171
                replace q171 := eq_true q171
                have p172 : 0 ≤ (x3_1 : Int) := of_decide_eq_true (by first | (with_reducible assumption) | assumption)
                have q172 : x3_1 < (l0.length : Int) := of_decide_eq_true (by first | (with_reducible assumption) | assumption)
                obtain ⟨ad172, e172, hx172_0, hx172_1, hx172_2⟩ := at_T34 HR0.out x3_1 p172 q172
                have hw172_2 := hx172_2
                have hw172_1 := hx172_1
                have hw172_0 := hx172_0
                obtain rfl : ad169 = ad172 := (by injection e172)
                replace hx172_0 := (HB.out.cell (World.block_lt_of_cell? w _ hx172_0)).trans hx172_0
                replace hx172_1 := (HB.out.cell (World.block_lt_of_cell? w _ hx172_1)).trans hx172_1
                replace hx172_2 := (HB.out.cell (World.block_lt_of_cell? w _ hx172_2)).trans hx172_2
                replace p172 := eq_true p172
                replace q172 := eq_true q172
                refine start_ (n := 24) (S := fun w' => w'.cell? (ad169.add ((x4_3).toNat * 3)) = some (.string ((rd_T34 l0 x4_3).f0)) ∧ w'.cell? ⟨(ad169.add ((x4_3).toNat * 3)).block, (ad169.add ((x4_3).toNat * 3)).off + 1, none⟩ = some (.int .i64 ((rd_T34 l0 x4_3).f1)) ∧ w'.cell? ⟨(ad169.add ((x4_3).toNat * 3)).block, (ad169.add ((x4_3).toNat * 3)).off + 2, none⟩ = some (.int .i64 ((rd_T34 l0 x4_3).f2)) ∧ w'.cell? (ad169.add ((x3_1).toNat * 3)) = some (.string ((rd_T34 l0 x3_1).f0)) ∧ w'.cell? ⟨(ad169.add ((x3_1).toNat * 3)).block, (ad169.add ((x3_1).toNat * 3)).off + 1, none⟩ = some (.int .i64 ((rd_T34 l0 x3_1).f1)) ∧ w'.cell? ⟨(ad169.add ((x3_1).toNat * 3)).block, (ad169.add ((x3_1).toNat * 3)).off + 2, none⟩ = some (.int .i64 ((rd_T34 l0 x3_1).f2)) ∧ w'.cell? (ad169.add ((x4_3).toNat * 3)) = some (.string ((rd_T34 l0 x4_3).f0)) ∧ w'.cell? ⟨(ad169.add ((x4_3).toNat * 3)).block, (ad169.add ((x4_3).toNat * 3)).off + 1, none⟩ = some (.int .i64 ((rd_T34 l0 x4_3).f1)) ∧ w'.cell? ⟨(ad169.add ((x4_3).toNat * 3)).block, (ad169.add ((x4_3).toNat * 3)).off + 2, none⟩ = some (.int .i64 ((rd_T34 l0 x4_3).f2)) ∧ w'.cell? (ad169.add ((x3_1).toNat * 3)) = some (.string ((rd_T34 l0 x3_1).f0)) ∧ w'.cell? ⟨(ad169.add ((x3_1).toNat * 3)).block, (ad169.add ((x3_1).toNat * 3)).off + 1, none⟩ = some (.int .i64 ((rd_T34 l0 x3_1).f1)) ∧ w'.cell? ⟨(ad169.add ((x3_1).toNat * 3)).block, (ad169.add ((x3_1).toNat * 3)).off + 2, none⟩ = some (.int .i64 ((rd_T34 l0 x3_1).f2))) (ds := []) x4tr24_0 (by kernel_rfl) rfl rfl ⟨((HB.out.cell (World.block_lt_of_cell? w _ hw169_0)).trans hw169_0), ((HB.out.cell (World.block_lt_of_cell? w _ hw169_1)).trans hw169_1), ((HB.out.cell (World.block_lt_of_cell? w _ hw169_2)).trans hw169_2), ((HB.out.cell (World.block_lt_of_cell? w _ hw170_0)).trans hw170_0), ((HB.out.cell (World.block_lt_of_cell? w _ hw170_1)).trans hw170_1), ((HB.out.cell (World.block_lt_of_cell? w _ hw170_2)).trans hw170_2), ((HB.out.cell (World.block_lt_of_cell? w _ hw171_0)).trans hw171_0), ((HB.out.cell (World.block_lt_of_cell? w _ hw171_1)).trans hw171_1), ((HB.out.cell (World.block_lt_of_cell? w _ hw171_2)).trans hw171_2), ((HB.out.cell (World.block_lt_of_cell? w _ hw172_0)).trans hw172_0), ((HB.out.cell (World.block_lt_of_cell? w _ hw172_1)).trans hw172_1), ((HB.out.cell (World.block_lt_of_cell? w _ hw172_2)).trans hw172_2)⟩ (fun hHeld => ?_); refine with_tabW cantonref10_Right.tab9 cantonref10_Right.bits9 (fun HT_ HW_ => ?_)
                generalize wr.drew = w34 at HB hx169_0 hx169_1 hx169_2 hx170_0 hx170_1 hx170_2 hx171_0 hx171_1 hx171_2 hx172_0 hx172_1 hx172_2 hHeld ⊢
                refine pA_ 0 59 x4tr24_1 HT_.out ?_
                refine pA_ 1 60 x4tr24_2 HT_.out ?_
                refine pA_ 2 61 x4tr24_3 HT_.out ?_
                refine pA_ 3 62 x4tr24_4 HT_.out ?_
                refine pA_ 5 64 x4tr24_m111101000000000000000000 HT_.out ?_
                refine pA_ 6 65 x4tr24_m111101100000000000000000 HT_.out ?_
                refine pA_ 7 66 x4tr24_m111101110000000000000000 HT_.out ?_
                refine pA_ 8 67 x4tr24_m111101111000000000000000 HT_.out ?_
                refine take_ (i := 4) (N := some 63) (v := ?_) (a' := ?_) x4tr24_9 rfl rfl (take_ofW HT_.out HW_.out (by kernel_rfl)) (fun _ _ _ h => h) (Or.inl ⟨by rfl, ?_⟩) hHeld ?_ ?_
                rotate_left
                ·rintro w' ⟨s0, s1, s2, s3, s4, s5, s6, s7, s8, s9, s10, s11⟩
                 go_simp
                 with_reducible rfl
                rotate_left
                ·simp only [Act.put, List.setIfInBounds_toArray, List.set_cons_zero, List.set_cons_succ, i64_w, i32_w]
                 rfl
                refine take_ (i := 9) (N := some 68) (v := ?_) (a' := ?_) x4tr24_10 rfl rfl (take_ofW HT_.out HW_.out (by kernel_rfl)) (fun _ _ _ h => h) (Or.inl ⟨by rfl, ?_⟩) hHeld ?_ ?_
                rotate_left
                ·rintro w' ⟨s0, s1, s2, s3, s4, s5, s6, s7, s8, s9, s10, s11⟩
                 go_simp
                 with_reducible rfl
                rotate_left
                ·simp only [Act.put, List.setIfInBounds_toArray, List.set_cons_zero, List.set_cons_succ, i64_w, i32_w]
                 rfl
                refine pA_ 10 69 x4tr24_11 HT_.out ?_
                refine pA_ 11 70 x4tr24_12 HT_.out ?_
                refine pA_ 12 71 x4tr24_13 HT_.out ?_
                refine pA_ 13 72 x4tr24_14 HT_.out ?_
                refine pA_ 14 73 x4tr24_15 HT_.out ?_
                refine pA_ 15 74 x4tr24_16 HT_.out ?_
                refine pA_ 17 76 x4tr24_m111111111111111101000000 HT_.out ?_
                refine pA_ 18 77 x4tr24_m111111111111111101100000 HT_.out ?_
                refine pA_ 19 78 x4tr24_m111111111111111101110000 HT_.out ?_
                refine pA_ 20 79 x4tr24_m111111111111111101111000 HT_.out ?_
                refine take_ (i := 16) (N := some 75) (v := ?_) (a' := ?_) x4tr24_21 rfl rfl (take_ofW HT_.out HW_.out (by kernel_rfl)) (fun _ _ _ h => h) (Or.inl ⟨by rfl, ?_⟩) hHeld ?_ ?_
                rotate_left
                ·rintro w' ⟨s0, s1, s2, s3, s4, s5, s6, s7, s8, s9, s10, s11⟩
                 go_simp
                 with_reducible rfl
                rotate_left
                ·simp only [Act.put, List.setIfInBounds_toArray, List.set_cons_zero, List.set_cons_succ, i64_w, i32_w]
                 rfl
                refine take_ (i := 21) (N := some 80) (v := ?_) (a' := ?_) x4tr24_22 rfl rfl (take_ofW HT_.out HW_.out (by kernel_rfl)) (fun _ _ _ h => h) (Or.inl ⟨by rfl, ?_⟩) hHeld ?_ ?_
                rotate_left
                ·rintro w' ⟨s0, s1, s2, s3, s4, s5, s6, s7, s8, s9, s10, s11⟩
                 go_simp
                 with_reducible rfl
                rotate_left
                ·simp only [Act.put, List.setIfInBounds_toArray, List.set_cons_zero, List.set_cons_succ, i64_w, i32_w]
                 rfl
                refine pA_ 22 81 x4tr24_23 HT_.out ?_
                refine pA_ 23 82 x4tr24_24 HT_.out ?_
                refine done_ (done_of HT_.out (by kernel_rfl)) ?_
                try go_wp2
                go_ret
                exact ⟨by first | rfl | (simp [errW_none, errW_some] <;> rfl) | (simp [*, errW_none, errW_some] <;> rfl), kZ HB⟩
              ·rw [if_neg c31] at H
               have c31b0 : (((rd_T34 l0 x4_3).f1) == ((rd_T34 l0 x3_1).f1)) = false := beq_eq_false_iff_ne.mpr c31
               have c31b1 : (((rd_T34 l0 x4_3).f1) != ((rd_T34 l0 x3_1).f1)) = true := bne_iff_ne.mpr c31
               have H' := Aside0.mk H
               clear H
               try go_wp2
               have n0_ := Aside0.mk (below_drew1 HB.out)
               clear HB
               have HB := n0_
               clear n0_
               have p169 : 0 ≤ (x4_3 : Int) := of_decide_eq_true (by first | (with_reducible assumption) | assumption)
               have q169 : x4_3 < (l0.length : Int) := of_decide_eq_true (by first | (with_reducible assumption) | assumption)
               obtain ⟨ad169, e169, hx169_0, hx169_1, hx169_2⟩ := at_T34 HR0.out x4_3 p169 q169
               have hw169_2 := hx169_2
               have hw169_1 := hx169_1
               have hw169_0 := hx169_0
               cases e169
               replace hx169_0 := (HB.out.cell (World.block_lt_of_cell? w _ hx169_0)).trans hx169_0
               replace hx169_1 := (HB.out.cell (World.block_lt_of_cell? w _ hx169_1)).trans hx169_1
               replace hx169_2 := (HB.out.cell (World.block_lt_of_cell? w _ hx169_2)).trans hx169_2
               replace p169 := eq_true p169
               replace q169 := eq_true q169
               have p170 : 0 ≤ (x3_1 : Int) := of_decide_eq_true (by first | (with_reducible assumption) | assumption)
               have q170 : x3_1 < (l0.length : Int) := of_decide_eq_true (by first | (with_reducible assumption) | assumption)
               obtain ⟨ad170, e170, hx170_0, hx170_1, hx170_2⟩ := at_T34 HR0.out x3_1 p170 q170
               have hw170_2 := hx170_2
               have hw170_1 := hx170_1
               have hw170_0 := hx170_0
               obtain rfl : ad169 = ad170 := (by injection e170)
               replace hx170_0 := (HB.out.cell (World.block_lt_of_cell? w _ hx170_0)).trans hx170_0
               replace hx170_1 := (HB.out.cell (World.block_lt_of_cell? w _ hx170_1)).trans hx170_1
               replace hx170_2 := (HB.out.cell (World.block_lt_of_cell? w _ hx170_2)).trans hx170_2
               replace p170 := eq_true p170
               replace q170 := eq_true q170
               refine start_ (n := 24) (S := fun w' => w'.cell? (ad169.add ((x4_3).toNat * 3)) = some (.string ((rd_T34 l0 x4_3).f0)) ∧ w'.cell? ⟨(ad169.add ((x4_3).toNat * 3)).block, (ad169.add ((x4_3).toNat * 3)).off + 1, none⟩ = some (.int .i64 ((rd_T34 l0 x4_3).f1)) ∧ w'.cell? ⟨(ad169.add ((x4_3).toNat * 3)).block, (ad169.add ((x4_3).toNat * 3)).off + 2, none⟩ = some (.int .i64 ((rd_T34 l0 x4_3).f2)) ∧ w'.cell? (ad169.add ((x3_1).toNat * 3)) = some (.string ((rd_T34 l0 x3_1).f0)) ∧ w'.cell? ⟨(ad169.add ((x3_1).toNat * 3)).block, (ad169.add ((x3_1).toNat * 3)).off + 1, none⟩ = some (.int .i64 ((rd_T34 l0 x3_1).f1)) ∧ w'.cell? ⟨(ad169.add ((x3_1).toNat * 3)).block, (ad169.add ((x3_1).toNat * 3)).off + 2, none⟩ = some (.int .i64 ((rd_T34 l0 x3_1).f2))) (ds := []) x4tr24_0 (by kernel_rfl) rfl rfl ⟨((HB.out.cell (World.block_lt_of_cell? w _ hw169_0)).trans hw169_0), ((HB.out.cell (World.block_lt_of_cell? w _ hw169_1)).trans hw169_1), ((HB.out.cell (World.block_lt_of_cell? w _ hw169_2)).trans hw169_2), ((HB.out.cell (World.block_lt_of_cell? w _ hw170_0)).trans hw170_0), ((HB.out.cell (World.block_lt_of_cell? w _ hw170_1)).trans hw170_1), ((HB.out.cell (World.block_lt_of_cell? w _ hw170_2)).trans hw170_2)⟩ (fun hHeld => ?_); refine with_tabW cantonref10_Right.tab9 cantonref10_Right.bits9 (fun HT_ HW_ => ?_)
               generalize wr.drew = w35 at HB hx169_0 hx169_1 hx169_2 hx170_0 hx170_1 hx170_2 hHeld ⊢
               refine pA_ 0 59 x4tr24_1 HT_.out ?_
               refine pA_ 1 60 x4tr24_2 HT_.out ?_
               refine pA_ 2 61 x4tr24_3 HT_.out ?_
               refine pA_ 3 62 x4tr24_4 HT_.out ?_
               refine pA_ 5 64 x4tr24_m111101000000000000000000 HT_.out ?_
               refine pA_ 6 65 x4tr24_m111101100000000000000000 HT_.out ?_
               refine pA_ 7 66 x4tr24_m111101110000000000000000 HT_.out ?_
               refine pA_ 8 67 x4tr24_m111101111000000000000000 HT_.out ?_
               refine take_ (i := 4) (N := some 63) (v := ?_) (a' := ?_) x4tr24_9 rfl rfl (take_ofW HT_.out HW_.out (by kernel_rfl)) (fun _ _ _ h => h) (Or.inl ⟨by rfl, ?_⟩) hHeld ?_ ?_
               rotate_left
               ·rintro w' ⟨s0, s1, s2, s3, s4, s5⟩
                go_simp
                with_reducible rfl
               rotate_left
               ·simp only [Act.put, List.setIfInBounds_toArray, List.set_cons_zero, List.set_cons_succ, i64_w, i32_w]
                rfl
               refine take_ (i := 9) (N := some 68) (v := ?_) (a' := ?_) x4tr24_10 rfl rfl (take_ofW HT_.out HW_.out (by kernel_rfl)) (fun _ _ _ h => h) (Or.inl ⟨by rfl, ?_⟩) hHeld ?_ ?_
               rotate_left
               ·rintro w' ⟨s0, s1, s2, s3, s4, s5⟩
                go_simp
                with_reducible rfl
               rotate_left
               ·simp only [Act.put, List.setIfInBounds_toArray, List.set_cons_zero, List.set_cons_succ, i64_w, i32_w]
                rfl
               refine pA_ 10 69 x4tr24_11 HT_.out ?_
               refine pA_ 11 70 x4tr24_12 HT_.out ?_
               refine pU_ 12 71 x4tr24_13 HT_.out ?_
               refine pU_ 13 72 x4tr24_14 HT_.out ?_
               refine pU_ 14 73 x4tr24_15 HT_.out ?_
               refine pU_ 15 74 x4tr24_16 HT_.out ?_
               refine pU_ 16 75 x4tr24_17 HT_.out ?_
               refine pU_ 17 76 x4tr24_18 HT_.out ?_
               refine pU_ 18 77 x4tr24_19 HT_.out ?_
               refine pU_ 19 78 x4tr24_20 HT_.out ?_
               refine pU_ 20 79 x4tr24_21 HT_.out ?_
               refine pU_ 21 80 x4tr24_22 HT_.out ?_
               refine pU_ 22 81 x4tr24_23 HT_.out ?_
               refine pA_ 23 82 x4tr24_24 HT_.out ?_
               refine done_ (done_of HT_.out (by kernel_rfl)) ?_
               try go_wp2
               go_roundg k3
               case measure => have := HK1.out; have := HJ2.out; have := HK3.out; omega
               case rel => exact ⟨(wrap64 (x4_3 + 1)), (by first | rfl | (simp; done) | (simp [*]; done)), H', ⟨by have := HK1.out; have := HJ2.out; have := HK3.out; omega⟩, ⟨kZ HB⟩⟩
             ·rw [if_neg c30] at H
              exact absurd H (by simp)
            ·rw [if_neg c29] at H
             exact absurd H (by simp)
           ·rw [if_neg c28] at H
            exact absurd H (by simp)
          ·rw [if_neg c27] at H
           exact absurd H (by simp)
         ·rw [if_neg c26] at H
          have c26b0 : decide (x4_3 < x3_1) = false := decide_eq_false c26
          clear c26
          have H' := Aside0.mk H
          clear H
          go_wp2
          go_roundg k3
          case measure => have := HK1.out; have := HJ2.out; have := HK3.out; omega
          case rel => exact ⟨(wrap64 (x3_1 + 1)), (by first | rfl | (simp; done) | (simp [*]; done)), H', ⟨by have := HK1.out; have := HJ2.out; have := HK3.out; omega⟩, ⟨kZ HB⟩⟩
   ·rw [if_neg c2] at H
    have c2b0 : decide (x3_1 < (l0.length : Int)) = false := decide_eq_false c2
    clear c2
    obtain rfl := Option.some.inj H
    go_wp2
    go_ret
    exact ⟨by first | rfl | (simp [errW_none, errW_some] <;> rfl) | (simp [*, errW_none, errW_some] <;> rfl), kZ HB⟩

end Go.Proofs.Ytclomgbiomojjaa.Q
