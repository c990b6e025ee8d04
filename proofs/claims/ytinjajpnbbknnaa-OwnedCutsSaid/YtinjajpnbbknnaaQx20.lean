-- Written by a program of this session (xprint) out of the translation; over contracts proved by hand.
import Derived.Test.YtinjajpnbbknnaaQx0
import Derived.Test.YtinjajpnbbknnaaSq
import Derived.Test.YtinjajpnbbknnaaQx1
import Derived.Test.YtinjajpnbbknnaaQx8
import Derived.Test.YtinjajpnbbknnaaQx10
import Derived.Test.YtinjajpnbbknnaaQx15
import Derived.Test.YtinjajpnbbknnaaQx16
import Derived.Test.YtinjajpnbbknnaaQx18
import Derived.Test.YtinjajpnbbknnaaQx19
import Derived.Test.YtinjajpnbbknnaaCut2
namespace Go.Proofs.Ytinjajpnbbknnaa.Cut2
end Go.Proofs.Ytinjajpnbbknnaa.Cut2
namespace Go.Proofs.Ytinjajpnbbknnaa.RPut
end Go.Proofs.Ytinjajpnbbknnaa.RPut
namespace Go.Proofs.Ytinjajpnbbknnaa.Split
end Go.Proofs.Ytinjajpnbbknnaa.Split
namespace Go.Proofs.Ytinjajpnbbknnaa.Q
open Go.Proofs.Ytinjajpnbbknnaa.Cut2 Go.Proofs.Ytinjajpnbbknnaa.RPut Go.Proofs.Ytinjajpnbbknnaa.Split
set_option linter.unnecessarySimpa false
open Go.RowKit Go.Proofs.YtinjajpnbbknnaaW.PrintWords Go.Proofs.YtinjajpnbbknnaaW.PrintLast Go.Proofs.YtinjajpnbbknnaaW.PrintMore
attribute [local go_sem] max2_int min2_int max_two min_two max_three min_three max_four min_four   -- for this text's walks alone
set_option linter.unusedVariables false
set_option linter.unusedSimpArgs false

attribute [local go_sem high] eqA40
/-! ### cantonlaw11_OwnedCuts: function 4 -/
mutual
def cantonlaw11_OwnedCuts.j0 : Nat → List (S45) → ByteArray → Bool → Bool → List (S40) → List (S59) → Option (Bool)
 | 0, _, _, _, _, _, _ => none
 | k + 1, x1, x2, x7, x26, x403000, x403001 => if x26 = true then (some x7) else ((owned_Cut.f x403000 x403001 x1 x2).bind fun bt406 => ((cantonref11_Cut.f k x403000 x403001 x1 x2).bind fun bt420 => ((cantonref07_Same.f k bt406.1 bt406.2.1 bt420.1 bt420.2.1).bind fun t434 => (if t434 = true then ((cantonref07_Same.f k bt406.2.2.1 bt406.2.2.2 bt420.2.2.1 bt420.2.2.2).bind fun t435 => (cantonlaw11_OwnedCuts.j1 k x1 x7 (!t435) x403000 x403001 bt406.1 bt406.2.1 bt406.2.2.1 bt406.2.2.2)) else (cantonlaw11_OwnedCuts.j1 k x1 x7 true x403000 x403001 bt406.1 bt406.2.1 bt406.2.2.1 bt406.2.2.2)))))
def cantonlaw11_OwnedCuts.j1 : Nat → List (S45) → Bool → Bool → List (S40) → List (S59) → List (S40) → List (S59) → List (S40) → List (S59) → Option (Bool)
 | 0, _, _, _, _, _, _, _, _, _ => none
 | k + 1, x1, x7, x51, x403000, x403001, x419000, x419001, x420000, x420001 => if x51 = true then (some false) else ((cantonref07_Right.f k x403000 x403001).bind fun t436 => (if t436 = true then ((cantonref11_Right.f k x1).bind fun t437 => (cantonlaw11_OwnedCuts.j2 k x7 (!t437) x403000 x403001 x419000 x419001 x420000 x420001)) else (cantonlaw11_OwnedCuts.j2 k x7 true x403000 x403001 x419000 x419001 x420000 x420001)))
def cantonlaw11_OwnedCuts.j2 : Nat → Bool → Bool → List (S40) → List (S59) → List (S40) → List (S59) → List (S40) → List (S59) → Option (Bool)
 | 0, _, _, _, _, _, _, _, _ => none
 | k + 1, x7, x59, x403000, x403001, x419000, x419001, x420000, x420001 => if x59 = true then (if x7 = true then (some ((wrap64 ((wrap64 ((wrap64 ((x419000.length : Int) + (x420000.length : Int))) + (x419001.length : Int))) + (x420001.length : Int))) == 0)) else (some false)) else (cantonlaw11_OwnedCuts.l0 k x7 0 0 0 x403000 x403001 x419000 x419001 x420000 x420001)
def cantonlaw11_OwnedCuts.l0 : Nat → Bool → Int → Int → Int → List (S40) → List (S59) → List (S40) → List (S59) → List (S40) → List (S59) → Option (Bool)
 | 0, _, _, _, _, _, _, _, _, _, _ => none
 | k + 1, x7, x12, x13, x14, x403000, x403001, x419000, x419001, x420000, x420001 => if x14 < (x403000.length : Int) then (if x12 < (x419000.length : Int) then (if 0 ≤ x12 then (if 0 ≤ x14 then (cantonlaw11_OwnedCuts.j4 k x7 x12 x13 x14 ((((rd_T40 x419000 x12).f0).toList) == (((rd_T40 x403000 x14).f0).toList) && ((((rd_T40 x419000 x12).f1).toList) == (((rd_T40 x403000 x14).f1).toList) && (((rd_T40 x419000 x12).f2) == ((rd_T40 x403000 x14).f2) && (((rd_T40 x419000 x12).f3) == ((rd_T40 x403000 x14).f3) && (((rd_T40 x419000 x12).f4) == ((rd_T40 x403000 x14).f4)))))) x403000 x403001 x419000 x419001 x420000 x420001) else (none)) else (none)) else (cantonlaw11_OwnedCuts.j4 k x7 x12 x13 x14 false x403000 x403001 x419000 x419001 x420000 x420001)) else (if x7 = true then (if x12 = (x419000.length : Int) then (if x13 = (x420000.length : Int) then (if (wrap64 ((x419001.length : Int) + (x420001.length : Int))) = (x403001.length : Int) then ((cantonref07_Right.f k x419000 x419001).bind fun t438 => (if t438 = true then ((cantonref07_Right.f k x420000 x420001).bind fun t439 => (some t439)) else (some false))) else (some false)) else (some false)) else (some false)) else (some false))
def cantonlaw11_OwnedCuts.j4 : Nat → Bool → Int → Int → Int → Bool → List (S40) → List (S59) → List (S40) → List (S59) → List (S40) → List (S59) → Option (Bool)
 | 0, _, _, _, _, _, _, _, _, _, _, _ => none
 | k + 1, x7, x12, x13, x14, x103, x403000, x403001, x419000, x419001, x420000, x420001 => if x103 = true then (cantonlaw11_OwnedCuts.l0 k x7 (wrap64 (x12 + 1)) x13 (wrap64 (x14 + 1)) x403000 x403001 x419000 x419001 x420000 x420001) else (if x13 < (x420000.length : Int) then (if 0 ≤ x13 then (if 0 ≤ x14 then (if x14 < (x403000.length : Int) then (if ((((rd_T40 x420000 x13).f0).toList) == (((rd_T40 x403000 x14).f0).toList) && ((((rd_T40 x420000 x13).f1).toList) == (((rd_T40 x403000 x14).f1).toList) && (((rd_T40 x420000 x13).f2) == ((rd_T40 x403000 x14).f2) && (((rd_T40 x420000 x13).f3) == ((rd_T40 x403000 x14).f3) && (((rd_T40 x420000 x13).f4) == ((rd_T40 x403000 x14).f4)))))) = true then (cantonlaw11_OwnedCuts.l0 k x7 x12 (wrap64 (x13 + 1)) (wrap64 (x14 + 1)) x403000 x403001 x419000 x419001 x420000 x420001) else (some false)) else (none)) else (none)) else (none)) else (some false))
end
def cantonlaw11_OwnedCuts.f (k : Nat) (l0_0 : List (S40)) (l0_1 : List (S59)) (l1 : List (S45)) (a2 : ByteArray) : Option (Bool) := (cantonlaw11_head.f k).bind fun t403 => ((cantonlaw11_Great.f k l1).bind fun t404 => (if t404 = true then (cantonlaw11_OwnedCuts.j0 k l1 a2 t403 true l0_0 l0_1) else ((cantonlaw07_Great.f k l0_0 l0_1).bind fun t405 => (if t405 = true then (cantonlaw11_OwnedCuts.j0 k l1 a2 t403 true l0_0 l0_1) else (cantonlaw11_OwnedCuts.j0 k l1 a2 t403 (decide ((a2.size : Int) > 3000)) l0_0 l0_1)))))
theorem cantonlaw11_OwnedCuts.mono_l : ∀ k, (∀ y0 y1 y2 y3 y4 y5, LeO (cantonlaw11_OwnedCuts.j0 k y0 y1 y2 y3 y4 y5) (cantonlaw11_OwnedCuts.j0 (k + 1) y0 y1 y2 y3 y4 y5)) ∧ (∀ y0 y1 y2 y3 y4 y5 y6 y7 y8, LeO (cantonlaw11_OwnedCuts.j1 k y0 y1 y2 y3 y4 y5 y6 y7 y8) (cantonlaw11_OwnedCuts.j1 (k + 1) y0 y1 y2 y3 y4 y5 y6 y7 y8)) ∧ (∀ y0 y1 y2 y3 y4 y5 y6 y7, LeO (cantonlaw11_OwnedCuts.j2 k y0 y1 y2 y3 y4 y5 y6 y7) (cantonlaw11_OwnedCuts.j2 (k + 1) y0 y1 y2 y3 y4 y5 y6 y7)) ∧ (∀ y0 y1 y2 y3 y4 y5 y6 y7 y8 y9, LeO (cantonlaw11_OwnedCuts.l0 k y0 y1 y2 y3 y4 y5 y6 y7 y8 y9) (cantonlaw11_OwnedCuts.l0 (k + 1) y0 y1 y2 y3 y4 y5 y6 y7 y8 y9)) ∧ (∀ y0 y1 y2 y3 y4 y5 y6 y7 y8 y9 y10, LeO (cantonlaw11_OwnedCuts.j4 k y0 y1 y2 y3 y4 y5 y6 y7 y8 y9 y10) (cantonlaw11_OwnedCuts.j4 (k + 1) y0 y1 y2 y3 y4 y5 y6 y7 y8 y9 y10))
 | 0 => ⟨fun _ _ _ _ _ _ r h => by simp [cantonlaw11_OwnedCuts.j0] at h, fun _ _ _ _ _ _ _ _ _ r h => by simp [cantonlaw11_OwnedCuts.j1] at h, fun _ _ _ _ _ _ _ _ r h => by simp [cantonlaw11_OwnedCuts.j2] at h, fun _ _ _ _ _ _ _ _ _ _ r h => by simp [cantonlaw11_OwnedCuts.l0] at h, fun _ _ _ _ _ _ _ _ _ _ _ r h => by simp [cantonlaw11_OwnedCuts.j4] at h⟩
 | k + 1 => by
  obtain ⟨ih0, ih1, ih2, ih3, ih4⟩ := cantonlaw11_OwnedCuts.mono_l k
  refine ⟨?_, ?_, ?_, ?_, ?_⟩
  ·intro y0 y1 y2 y3 y4 y5
   unfold cantonlaw11_OwnedCuts.j0
   repeat' first
   | (with_reducible exact ih0 _ _ _ _ _ _)
   | (with_reducible exact ih1 _ _ _ _ _ _ _ _ _)
   | (with_reducible exact ih2 _ _ _ _ _ _ _ _)
   | (with_reducible exact ih3 _ _ _ _ _ _ _ _ _ _)
   | (with_reducible exact ih4 _ _ _ _ _ _ _ _ _ _ _)
   | (with_reducible exact cantonlaw07_Great.mono _ _ _)
   | (with_reducible exact cantonlaw11_Great.mono _ _)
   | (with_reducible exact cantonlaw11_head.mono _)
   | (with_reducible exact cantonref07_Right.mono _ _ _)
   | (with_reducible exact cantonref07_Same.mono _ _ _ _ _)
   | (with_reducible exact cantonref11_Cut.mono _ _ _ _ _)
   | (with_reducible exact cantonref11_Right.mono _ _)
   | (with_reducible exact LeO.refl _)
   | (with_reducible exact LeO.none _)
   | (with_reducible refine LeO.ite ?_ ?_)
   | (with_reducible refine LeO.bind ?_ (fun _ => ?_))
   | exact ih0 _ _ _ _ _ _
   | exact ih1 _ _ _ _ _ _ _ _ _
   | exact ih2 _ _ _ _ _ _ _ _
   | exact ih3 _ _ _ _ _ _ _ _ _ _
   | exact ih4 _ _ _ _ _ _ _ _ _ _ _
   | exact cantonlaw07_Great.mono _ _ _
   | exact cantonlaw11_Great.mono _ _
   | exact cantonlaw11_head.mono _
   | exact cantonref07_Right.mono _ _ _
   | exact cantonref07_Same.mono _ _ _ _ _
   | exact cantonref11_Cut.mono _ _ _ _ _
   | exact cantonref11_Right.mono _ _
   | exact LeO.none _
   | refine LeO.ite ?_ ?_
   | refine LeO.bind ?_ (fun _ => ?_)
  ·intro y0 y1 y2 y3 y4 y5 y6 y7 y8
   unfold cantonlaw11_OwnedCuts.j1
   repeat' first
   | (with_reducible exact ih0 _ _ _ _ _ _)
   | (with_reducible exact ih1 _ _ _ _ _ _ _ _ _)
   | (with_reducible exact ih2 _ _ _ _ _ _ _ _)
   | (with_reducible exact ih3 _ _ _ _ _ _ _ _ _ _)
   | (with_reducible exact ih4 _ _ _ _ _ _ _ _ _ _ _)
   | (with_reducible exact cantonlaw07_Great.mono _ _ _)
   | (with_reducible exact cantonlaw11_Great.mono _ _)
   | (with_reducible exact cantonlaw11_head.mono _)
   | (with_reducible exact cantonref07_Right.mono _ _ _)
   | (with_reducible exact cantonref07_Same.mono _ _ _ _ _)
   | (with_reducible exact cantonref11_Cut.mono _ _ _ _ _)
   | (with_reducible exact cantonref11_Right.mono _ _)
   | (with_reducible exact LeO.refl _)
   | (with_reducible exact LeO.none _)
   | (with_reducible refine LeO.ite ?_ ?_)
   | (with_reducible refine LeO.bind ?_ (fun _ => ?_))
   | exact ih0 _ _ _ _ _ _
   | exact ih1 _ _ _ _ _ _ _ _ _
   | exact ih2 _ _ _ _ _ _ _ _
   | exact ih3 _ _ _ _ _ _ _ _ _ _
   | exact ih4 _ _ _ _ _ _ _ _ _ _ _
   | exact cantonlaw07_Great.mono _ _ _
   | exact cantonlaw11_Great.mono _ _
   | exact cantonlaw11_head.mono _
   | exact cantonref07_Right.mono _ _ _
   | exact cantonref07_Same.mono _ _ _ _ _
   | exact cantonref11_Cut.mono _ _ _ _ _
   | exact cantonref11_Right.mono _ _
   | exact LeO.none _
   | refine LeO.ite ?_ ?_
   | refine LeO.bind ?_ (fun _ => ?_)
  ·intro y0 y1 y2 y3 y4 y5 y6 y7
   unfold cantonlaw11_OwnedCuts.j2
   repeat' first
   | (with_reducible exact ih0 _ _ _ _ _ _)
   | (with_reducible exact ih1 _ _ _ _ _ _ _ _ _)
   | (with_reducible exact ih2 _ _ _ _ _ _ _ _)
   | (with_reducible exact ih3 _ _ _ _ _ _ _ _ _ _)
   | (with_reducible exact ih4 _ _ _ _ _ _ _ _ _ _ _)
   | (with_reducible exact cantonlaw07_Great.mono _ _ _)
   | (with_reducible exact cantonlaw11_Great.mono _ _)
   | (with_reducible exact cantonlaw11_head.mono _)
   | (with_reducible exact cantonref07_Right.mono _ _ _)
   | (with_reducible exact cantonref07_Same.mono _ _ _ _ _)
   | (with_reducible exact cantonref11_Cut.mono _ _ _ _ _)
   | (with_reducible exact cantonref11_Right.mono _ _)
   | (with_reducible exact LeO.refl _)
   | (with_reducible exact LeO.none _)
   | (with_reducible refine LeO.ite ?_ ?_)
   | (with_reducible refine LeO.bind ?_ (fun _ => ?_))
   | exact ih0 _ _ _ _ _ _
   | exact ih1 _ _ _ _ _ _ _ _ _
   | exact ih2 _ _ _ _ _ _ _ _
   | exact ih3 _ _ _ _ _ _ _ _ _ _
   | exact ih4 _ _ _ _ _ _ _ _ _ _ _
   | exact cantonlaw07_Great.mono _ _ _
   | exact cantonlaw11_Great.mono _ _
   | exact cantonlaw11_head.mono _
   | exact cantonref07_Right.mono _ _ _
   | exact cantonref07_Same.mono _ _ _ _ _
   | exact cantonref11_Cut.mono _ _ _ _ _
   | exact cantonref11_Right.mono _ _
   | exact LeO.none _
   | refine LeO.ite ?_ ?_
   | refine LeO.bind ?_ (fun _ => ?_)
  ·intro y0 y1 y2 y3 y4 y5 y6 y7 y8 y9
   unfold cantonlaw11_OwnedCuts.l0
   repeat' first
   | (with_reducible exact ih0 _ _ _ _ _ _)
   | (with_reducible exact ih1 _ _ _ _ _ _ _ _ _)
   | (with_reducible exact ih2 _ _ _ _ _ _ _ _)
   | (with_reducible exact ih3 _ _ _ _ _ _ _ _ _ _)
   | (with_reducible exact ih4 _ _ _ _ _ _ _ _ _ _ _)
   | (with_reducible exact cantonlaw07_Great.mono _ _ _)
   | (with_reducible exact cantonlaw11_Great.mono _ _)
   | (with_reducible exact cantonlaw11_head.mono _)
   | (with_reducible exact cantonref07_Right.mono _ _ _)
   | (with_reducible exact cantonref07_Same.mono _ _ _ _ _)
   | (with_reducible exact cantonref11_Cut.mono _ _ _ _ _)
   | (with_reducible exact cantonref11_Right.mono _ _)
   | (with_reducible exact LeO.refl _)
   | (with_reducible exact LeO.none _)
   | (with_reducible refine LeO.ite ?_ ?_)
   | (with_reducible refine LeO.bind ?_ (fun _ => ?_))
   | exact ih0 _ _ _ _ _ _
   | exact ih1 _ _ _ _ _ _ _ _ _
   | exact ih2 _ _ _ _ _ _ _ _
   | exact ih3 _ _ _ _ _ _ _ _ _ _
   | exact ih4 _ _ _ _ _ _ _ _ _ _ _
   | exact cantonlaw07_Great.mono _ _ _
   | exact cantonlaw11_Great.mono _ _
   | exact cantonlaw11_head.mono _
   | exact cantonref07_Right.mono _ _ _
   | exact cantonref07_Same.mono _ _ _ _ _
   | exact cantonref11_Cut.mono _ _ _ _ _
   | exact cantonref11_Right.mono _ _
   | exact LeO.none _
   | refine LeO.ite ?_ ?_
   | refine LeO.bind ?_ (fun _ => ?_)
  ·intro y0 y1 y2 y3 y4 y5 y6 y7 y8 y9 y10
   unfold cantonlaw11_OwnedCuts.j4
   repeat' first
   | (with_reducible exact ih0 _ _ _ _ _ _)
   | (with_reducible exact ih1 _ _ _ _ _ _ _ _ _)
   | (with_reducible exact ih2 _ _ _ _ _ _ _ _)
   | (with_reducible exact ih3 _ _ _ _ _ _ _ _ _ _)
   | (with_reducible exact ih4 _ _ _ _ _ _ _ _ _ _ _)
   | (with_reducible exact cantonlaw07_Great.mono _ _ _)
   | (with_reducible exact cantonlaw11_Great.mono _ _)
   | (with_reducible exact cantonlaw11_head.mono _)
   | (with_reducible exact cantonref07_Right.mono _ _ _)
   | (with_reducible exact cantonref07_Same.mono _ _ _ _ _)
   | (with_reducible exact cantonref11_Cut.mono _ _ _ _ _)
   | (with_reducible exact cantonref11_Right.mono _ _)
   | (with_reducible exact LeO.refl _)
   | (with_reducible exact LeO.none _)
   | (with_reducible refine LeO.ite ?_ ?_)
   | (with_reducible refine LeO.bind ?_ (fun _ => ?_))
   | exact ih0 _ _ _ _ _ _
   | exact ih1 _ _ _ _ _ _ _ _ _
   | exact ih2 _ _ _ _ _ _ _ _
   | exact ih3 _ _ _ _ _ _ _ _ _ _
   | exact ih4 _ _ _ _ _ _ _ _ _ _ _
   | exact cantonlaw07_Great.mono _ _ _
   | exact cantonlaw11_Great.mono _ _
   | exact cantonlaw11_head.mono _
   | exact cantonref07_Right.mono _ _ _
   | exact cantonref07_Same.mono _ _ _ _ _
   | exact cantonref11_Cut.mono _ _ _ _ _
   | exact cantonref11_Right.mono _ _
   | exact LeO.none _
   | refine LeO.ite ?_ ?_
   | refine LeO.bind ?_ (fun _ => ?_)
theorem cantonlaw11_OwnedCuts.mono : ∀ a0 a1 a2 a3 k, LeO (cantonlaw11_OwnedCuts.f k a0 a1 a2 a3) (cantonlaw11_OwnedCuts.f (k + 1) a0 a1 a2 a3) := by
 intro a0 a1 a2 a3 k
 obtain ⟨ih0, ih1, ih2, ih3, ih4⟩ := cantonlaw11_OwnedCuts.mono_l k
 unfold cantonlaw11_OwnedCuts.f
 repeat' first
   | (with_reducible exact ih0 _ _ _ _ _ _)
   | (with_reducible exact ih1 _ _ _ _ _ _ _ _ _)
   | (with_reducible exact ih2 _ _ _ _ _ _ _ _)
   | (with_reducible exact ih3 _ _ _ _ _ _ _ _ _ _)
   | (with_reducible exact ih4 _ _ _ _ _ _ _ _ _ _ _)
   | (with_reducible exact cantonlaw07_Great.mono _ _ _)
   | (with_reducible exact cantonlaw11_Great.mono _ _)
   | (with_reducible exact cantonlaw11_head.mono _)
   | (with_reducible exact cantonref07_Right.mono _ _ _)
   | (with_reducible exact cantonref07_Same.mono _ _ _ _ _)
   | (with_reducible exact cantonref11_Cut.mono _ _ _ _ _)
   | (with_reducible exact cantonref11_Right.mono _ _)
   | (with_reducible exact LeO.refl _)
   | (with_reducible exact LeO.none _)
   | (with_reducible refine LeO.ite ?_ ?_)
   | (with_reducible refine LeO.bind ?_ (fun _ => ?_))
   | exact ih0 _ _ _ _ _ _
   | exact ih1 _ _ _ _ _ _ _ _ _
   | exact ih2 _ _ _ _ _ _ _ _
   | exact ih3 _ _ _ _ _ _ _ _ _ _
   | exact ih4 _ _ _ _ _ _ _ _ _ _ _
   | exact cantonlaw07_Great.mono _ _ _
   | exact cantonlaw11_Great.mono _ _
   | exact cantonlaw11_head.mono _
   | exact cantonref07_Right.mono _ _ _
   | exact cantonref07_Same.mono _ _ _ _ _
   | exact cantonref11_Cut.mono _ _ _ _ _
   | exact cantonref11_Right.mono _ _
   | exact LeO.none _
   | refine LeO.ite ?_ ?_
   | refine LeO.bind ?_ (fun _ => ?_)
set_option maxHeartbeats 8000000 in
set_option maxRecDepth 100000 in
theorem cantonlaw11_OwnedCuts.calls (k : Nat) (A0_0 : Option Addr) (c0_0 : Nat) (l0_0 : List (S40)) (A0_1 : Option Addr) (c0_1 : Nat) (l0_1 : List (S59)) (A1 : Option Addr) (c1 : Nat) (l1 : List (S45)) (a2 : ByteArray) (r : Bool) (w : World) (hr0_0 : Kd.C k40 w A0_0 l0_0.length l0_0) (hc0_0 : l0_0.length ≤ c0_0) (hr0_1 : Kd.C k59 w A0_1 l0_1.length l0_1) (hc0_1 : l0_1.length ≤ c0_1) (hr1 : Kd.C k45 w A1 l1.length l1) (hc1 : l1.length ≤ c1) (h : cantonlaw11_OwnedCuts.f k l0_0 l0_1 l1 a2 = some r) :
  Calls Try.prog 4 #[.agg #[.slice A0_0 l0_0.length c0_0, .slice A0_1 l0_1.length c0_1], .slice A1 l1.length c1, .string a2] w fun e w' => e = .returned (.bool r) ∧ Below w.heap.size w w' := by
 have hu34 := Try.underlying34
 have hu40 := Try.underlying40
 have HR0_0 := am_ hr0_0
 have HC0_0 := am_ hc0_0
 clear hr0_0 hc0_0
 have HR0_1 := am_ hr0_1
 have HC0_1 := am_ hc0_1
 clear hr0_1 hc0_1
 have HR1 := am_ hr1
 have HC1 := am_ hc1
 clear hr1 hc1
 have HB := am_ (Below.refl w.heap.size w)
 have H : ((cantonlaw11_head.f k).bind fun t403 => ((cantonlaw11_Great.f k l1).bind fun t404 => (if t404 = true then (cantonlaw11_OwnedCuts.j0 k l1 a2 t403 true l0_0 l0_1) else ((cantonlaw07_Great.f k l0_0 l0_1).bind fun t405 => (if t405 = true then (cantonlaw11_OwnedCuts.j0 k l1 a2 t403 true l0_0 l0_1) else (cantonlaw11_OwnedCuts.j0 k l1 a2 t403 (decide ((a2.size : Int) > 3000)) l0_0 l0_1)))))) = some r := h
 clear h
 replace H := Option.bind_eq_some_iff.mp H
 obtain ⟨t403, A40, H⟩ := H
 replace H : ((cantonlaw11_Great.f k l1).bind fun t404 => (if t404 = true then (cantonlaw11_OwnedCuts.j0 k l1 a2 t403 true l0_0 l0_1) else ((cantonlaw07_Great.f k l0_0 l0_1).bind fun t405 => (if t405 = true then (cantonlaw11_OwnedCuts.j0 k l1 a2 t403 true l0_0 l0_1) else (cantonlaw11_OwnedCuts.j0 k l1 a2 t403 (decide ((a2.size : Int) > 3000)) l0_0 l0_1))))) = some r := H
 have A4 := am_ A40
 clear A40
 have HC5 := am_ H
 clear H
 go_enter Try.func4, Try.ntmps4
 go_upto_region 2 with (first | ((with_reducible refine gate_dst (N := 3) rfl ?_); (try (refine gate_guard (by rfl) ?_; dsimp only)); refine box_event ?hg (N := 3) ?hd (cs := #[.slice A0_0 l0_0.length c0_0, .slice A0_1 l0_1.length c0_1]) (t := 34) ?hr ?_; (case hd => rfl); (case hg => rfl); (case hr => first | (go_simp; done) | (go_simp; rfl)); intro gb402 hg w6 hbox hb; have n0_ := am_ (below_step (kZ HB) hb); have n1_ := am_ (hbox); have n2_ := am_ (gW hg (kZ HB)); have n3_ := am_ (gW hg (kZ HB)); clear HB; have HB := n0_; have BK402 := n1_; have GW402 := n2_; have GE402 := n3_; clear n0_ n1_ n2_ n3_; clear hb hbox hg) | (go_at_call 9; (with_reducible refine (cantonlaw11_head.calls k  t403 _ A4.out).mono ?_); rintro e w7 ⟨rfl, hb⟩; have n0_ := am_ (blk_below (kB BK402) hb); have n1_ := am_ (below_step (kZ HB) hb); clear BK402; clear HB; have BK402 := n0_; have HB := n1_; clear n0_ n1_; (try clear hb); (try clear hb2); (try clear hk); (try clear hi)))
 repeat (go_quiet (fail); go_upto_region 2 with (fail))
 (try simp only [Act.put, List.setIfInBounds_toArray, List.set_cons_zero, List.set_cons_succ])
 go_cut [26] (fun v26 wc => ∃ (kq : Nat) (x26_4 : Bool), v26 = .bool x26_4 ∧ Aside0 (cantonlaw11_OwnedCuts.j0 kq l1 a2 t403 x26_4 l0_0 l0_1 = some r) ∧ Aside0 (kq ≤ k) ∧ Aside0 (wc.heap[gb402]? = some (.cells #[(.slice A0_0 l0_0.length c0_0), (.slice A0_1 l0_1.length c0_1)] 34 (0, 0))) ∧ Aside0 (Below w.heap.size w wc))
 case first =>
  have H := HC5.out
  clear HC5
  replace H := Option.bind_eq_some_iff.mp H
  obtain ⟨t404, A80, H⟩ := H
  replace H : (if t404 = true then (cantonlaw11_OwnedCuts.j0 k l1 a2 t403 true l0_0 l0_1) else ((cantonlaw07_Great.f k l0_0 l0_1).bind fun t405 => (if t405 = true then (cantonlaw11_OwnedCuts.j0 k l1 a2 t403 true l0_0 l0_1) else (cantonlaw11_OwnedCuts.j0 k l1 a2 t403 (decide ((a2.size : Int) > 3000)) l0_0 l0_1)))) = some r := H
  have A8 := am_ A80
  clear A80
  by_cases c9 : t404 = true
  rotate_left
  ·replace c9 := Bool.eq_false_iff.mpr c9
   subst c9
   have H1 : ((cantonlaw07_Great.f k l0_0 l0_1).bind fun t405 => (if t405 = true then (cantonlaw11_OwnedCuts.j0 k l1 a2 t403 true l0_0 l0_1) else (cantonlaw11_OwnedCuts.j0 k l1 a2 t403 (decide ((a2.size : Int) > 3000)) l0_0 l0_1))) = some r := by rw [if_neg (show ¬ (false = true) by decide)] at H; exact H
   clear H
   have H := H1
   clear H1
   replace H := Option.bind_eq_some_iff.mp H
   obtain ⟨t405, A110, H⟩ := H
   replace H : (if t405 = true then (cantonlaw11_OwnedCuts.j0 k l1 a2 t403 true l0_0 l0_1) else (cantonlaw11_OwnedCuts.j0 k l1 a2 t403 (decide ((a2.size : Int) > 3000)) l0_0 l0_1)) = some r := H
   have A11 := am_ A110
   clear A110
   by_cases c12 : t405 = true
   rotate_left
   ·replace c12 := Bool.eq_false_iff.mpr c12
    subst c12
    have H1 : (cantonlaw11_OwnedCuts.j0 k l1 a2 t403 (decide ((a2.size : Int) > 3000)) l0_0 l0_1) = some r := by rw [if_neg (show ¬ (false = true) by decide)] at H; exact H
    clear H
    have H := H1
    clear H1
    have H' := am_ H
    clear H
    go_wp2_with (first | (go_at_call 10; (with_reducible refine (cantonlaw11_Great.calls k _ _ l1 false _ ?side1 ?side2 A8.out).mono ?_); (case side1 => exact kC ((Kd.C_below HR1.out HB.out))); (case side2 => exact HC1.out); rintro e w16 ⟨rfl, hb⟩; have n0_ := am_ (blk_below (kB BK402) hb); have n1_ := am_ (below_step (kZ HB) hb); clear BK402; clear HB; have BK402 := n0_; have HB := n1_; clear n0_ n1_; (try clear hb); (try clear hb2); (try clear hk); (try clear hi); have hcz17_0 : w16.cell? ⟨gb402, 0, none⟩ = some (.slice A0_0 l0_0.length c0_0) := (blk_cell BK402.out 0).trans rfl; have hcz17_1 : w16.cell? ⟨gb402, 1, none⟩ = some (.slice A0_1 l0_1.length c0_1) := (blk_cell BK402.out 1).trans rfl; have hfz17_0 := blk_frozen BK402.out 0; have hfz17_1 := blk_frozen BK402.out 1) | (go_at_call 24; (with_reducible refine (cantonlaw07_Great.calls k _ _ l0_0 _ _ l0_1 false _ ?side1 ?side2 ?side3 ?side4 A11.out).mono ?_); (case side1 => exact kC ((Kd.C_below HR0_0.out HB.out))); (case side2 => exact HC0_0.out); (case side3 => exact kC ((Kd.C_below HR0_1.out HB.out))); (case side4 => exact HC0_1.out); rintro e w18 ⟨rfl, hb⟩; have n0_ := am_ (blk_below (kB BK402) hb); have n1_ := am_ (below_step (kZ HB) hb); clear BK402; clear HB; have BK402 := n0_; have HB := n1_; clear n0_ n1_; (try clear hb); (try clear hb2); (try clear hk); (try clear hi)))
    repeat (go_quiet (fail); try go_wp2_with (fail))
    go_meet
    case rel => exact ⟨_, (decide ((a2.size : Int) > 3000)), e1_, H', ⟨by first | omega | exact Nat.le_refl _⟩, ⟨kB BK402⟩, ⟨kZ HB⟩⟩
   subst c12
   have H1 : (cantonlaw11_OwnedCuts.j0 k l1 a2 t403 true l0_0 l0_1) = some r := by rw [if_pos rfl] at H; exact H
   clear H
   have H := H1
   clear H1
   have H' := am_ H
   clear H
   go_wp2_with (first | (go_at_call 10; (with_reducible refine (cantonlaw11_Great.calls k _ _ l1 false _ ?side1 ?side2 A8.out).mono ?_); (case side1 => exact kC ((Kd.C_below HR1.out HB.out))); (case side2 => exact HC1.out); rintro e w13 ⟨rfl, hb⟩; have n0_ := am_ (blk_below (kB BK402) hb); have n1_ := am_ (below_step (kZ HB) hb); clear BK402; clear HB; have BK402 := n0_; have HB := n1_; clear n0_ n1_; (try clear hb); (try clear hb2); (try clear hk); (try clear hi); have hcz14_0 : w13.cell? ⟨gb402, 0, none⟩ = some (.slice A0_0 l0_0.length c0_0) := (blk_cell BK402.out 0).trans rfl; have hcz14_1 : w13.cell? ⟨gb402, 1, none⟩ = some (.slice A0_1 l0_1.length c0_1) := (blk_cell BK402.out 1).trans rfl; have hfz14_0 := blk_frozen BK402.out 0; have hfz14_1 := blk_frozen BK402.out 1) | (go_at_call 24; (with_reducible refine (cantonlaw07_Great.calls k _ _ l0_0 _ _ l0_1 true _ ?side1 ?side2 ?side3 ?side4 A11.out).mono ?_); (case side1 => exact kC ((Kd.C_below HR0_0.out HB.out))); (case side2 => exact HC0_0.out); (case side3 => exact kC ((Kd.C_below HR0_1.out HB.out))); (case side4 => exact HC0_1.out); rintro e w15 ⟨rfl, hb⟩; have n0_ := am_ (blk_below (kB BK402) hb); have n1_ := am_ (below_step (kZ HB) hb); clear BK402; clear HB; have BK402 := n0_; have HB := n1_; clear n0_ n1_; (try clear hb); (try clear hb2); (try clear hk); (try clear hi)))
   repeat (go_quiet (fail); try go_wp2_with (fail))
   go_meet
   case rel => exact ⟨_, (true), e1_, H', ⟨by first | omega | exact Nat.le_refl _⟩, ⟨kB BK402⟩, ⟨kZ HB⟩⟩
  subst c9
  have H1 : (cantonlaw11_OwnedCuts.j0 k l1 a2 t403 true l0_0 l0_1) = some r := by rw [if_pos rfl] at H; exact H
  clear H
  have H := H1
  clear H1
  have H' := am_ H
  clear H
  go_wp2_with (first | (go_at_call 10; (with_reducible refine (cantonlaw11_Great.calls k _ _ l1 true _ ?side1 ?side2 A8.out).mono ?_); (case side1 => exact kC ((Kd.C_below HR1.out HB.out))); (case side2 => exact HC1.out); rintro e w10 ⟨rfl, hb⟩; have n0_ := am_ (blk_below (kB BK402) hb); have n1_ := am_ (below_step (kZ HB) hb); clear BK402; clear HB; have BK402 := n0_; have HB := n1_; clear n0_ n1_; (try clear hb); (try clear hb2); (try clear hk); (try clear hi)))
  repeat (go_quiet (fail); try go_wp2_with (fail))
  go_meet
  case rel => exact ⟨_, (true), e1_, H', ⟨by first | omega | exact Nat.le_refl _⟩, ⟨kB BK402⟩, ⟨kZ HB⟩⟩
 case rest =>
  clear HC5
  try clear p2
  obtain ⟨kq, x26_4, rfl, HA, HJ4, BK402, HB⟩ := hcut
  cases kq with
  | zero => exact absurd HA.out (by simp [cantonlaw11_OwnedCuts.j0])
  | succ kj4 =>
   have H := HA.out
   clear HA
   simp only [cantonlaw11_OwnedCuts.j0] at H
   by_cases c19 : x26_4 = true
   ·subst c19
    have H1 : (some t403) = some r := by rw [if_pos rfl] at H; exact H
    clear H
    have H := H1
    clear H1
    obtain rfl := Option.some.inj H
    go_wp2
    repeat (go_quiet (fail); try go_wp2)
    go_ret
    exact ⟨e2_, kZ HB⟩
   ·replace c19 := Bool.eq_false_iff.mpr c19
    subst c19
    have H1 : ((owned_Cut.f l0_0 l0_1 l1 a2).bind fun bt406 => ((cantonref11_Cut.f kj4 l0_0 l0_1 l1 a2).bind fun bt420 => ((cantonref07_Same.f kj4 bt406.1 bt406.2.1 bt420.1 bt420.2.1).bind fun t434 => (if t434 = true then ((cantonref07_Same.f kj4 bt406.2.2.1 bt406.2.2.2 bt420.2.2.1 bt420.2.2.2).bind fun t435 => (cantonlaw11_OwnedCuts.j1 kj4 l1 t403 (!t435) l0_0 l0_1 bt406.1 bt406.2.1 bt406.2.2.1 bt406.2.2.2)) else (cantonlaw11_OwnedCuts.j1 kj4 l1 t403 true l0_0 l0_1 bt406.1 bt406.2.1 bt406.2.2.1 bt406.2.2.2))))) = some r := by rw [if_neg (show ¬ (false = true) by decide)] at H; exact H
    clear H
    have H := H1
    clear H1
    replace H := Option.bind_eq_some_iff.mp H
    obtain ⟨⟨t406, t409, t412, t415⟩, A200, H⟩ := H
    replace H : ((cantonref11_Cut.f kj4 l0_0 l0_1 l1 a2).bind fun bt420 => ((cantonref07_Same.f kj4 t406 t409 bt420.1 bt420.2.1).bind fun t434 => (if t434 = true then ((cantonref07_Same.f kj4 t412 t415 bt420.2.2.1 bt420.2.2.2).bind fun t435 => (cantonlaw11_OwnedCuts.j1 kj4 l1 t403 (!t435) l0_0 l0_1 t406 t409 t412 t415)) else (cantonlaw11_OwnedCuts.j1 kj4 l1 t403 true l0_0 l0_1 t406 t409 t412 t415)))) = some r := H
    have A20 := am_ A200
    clear A200
    replace H := Option.bind_eq_some_iff.mp H
    obtain ⟨⟨t420, t423, t426, t429⟩, A210, H⟩ := H
    replace H : ((cantonref07_Same.f kj4 t406 t409 t420 t423).bind fun t434 => (if t434 = true then ((cantonref07_Same.f kj4 t412 t415 t426 t429).bind fun t435 => (cantonlaw11_OwnedCuts.j1 kj4 l1 t403 (!t435) l0_0 l0_1 t406 t409 t412 t415)) else (cantonlaw11_OwnedCuts.j1 kj4 l1 t403 true l0_0 l0_1 t406 t409 t412 t415))) = some r := H
    have A21 := am_ A210
    clear A210
    have HC22 := am_ H
    clear H
    have hcz23_0 : wc.cell? ⟨gb402, 0, none⟩ = some (.slice A0_0 l0_0.length c0_0) := (blk_cell BK402.out 0).trans rfl
    have hcz23_1 : wc.cell? ⟨gb402, 1, none⟩ = some (.slice A0_1 l0_1.length c0_1) := (blk_cell BK402.out 1).trans rfl
    have hfz23_0 := blk_frozen BK402.out 0
    have hfz23_1 := blk_frozen BK402.out 1
    go_upto_region 6 with (first | (go_at_call 25; (with_reducible refine (owned_Cut.calls _ _ l0_0 _ _ l0_1 _ _ l1 a2 t406 t409 t412 t415 _ ?side1 ?side2 ?side3 ?side4 ?side5 ?side6 A20.out).mono ?_); (case side1 => exact kC ((Kd.C_below HR0_0.out HB.out))); (case side2 => exact HC0_0.out); (case side3 => exact kC ((Kd.C_below HR0_1.out HB.out))); (case side4 => exact HC0_1.out); (case side5 => exact kC ((Kd.C_below HR1.out HB.out))); (case side6 => exact HC1.out); rintro e w24 ⟨v407, v410, v413, v416, rfl, ho0, ho1, ho2, ho3, hb⟩; have n0_ := am_ (Kd.R_lower ho0 (below_size (kZ HB))); have n1_ := am_ (Kd.R_lower ho1 (below_size (kZ HB))); have n2_ := am_ (Kd.R_lower ho2 (below_size (kZ HB))); have n3_ := am_ (Kd.R_lower ho3 (below_size (kZ HB))); have n4_ := am_ (blk_below (kB BK402) hb); have n5_ := am_ (below_step (kZ HB) hb); clear BK402; clear HB; have HO408 := n0_; have HO411 := n1_; have HO414 := n2_; have HO417 := n3_; have BK402 := n4_; have HB := n5_; clear n0_ n1_ n2_ n3_ n4_ n5_; (try clear hb); (try clear hb2); (try clear hk); (try clear hi); (try clear ho0); (try clear ho1); (try clear ho2); (try clear ho3)) | ((with_reducible refine gate_dst (N := 8) rfl ?_); (try (refine gate_guard (by rfl) ?_; dsimp only)); refine box_event ?hg (N := 8) ?hd (cs := #[.slice none 0 0, .slice none 0 0]) (t := 34) ?hr ?_; (case hd => rfl); (case hg => rfl); (case hr => first | (go_simp; done) | (go_simp; rfl)); intro gb418 hg w25 hbox hb; have n0_ := am_ (Kd.R_below (kR HO408) hb); have n1_ := am_ (Kd.R_below (kR HO411) hb); have n2_ := am_ (Kd.R_below (kR HO414) hb); have n3_ := am_ (Kd.R_below (kR HO417) hb); have n4_ := am_ (blk_below (kB BK402) hb); have n5_ := am_ (below_step (kZ HB) hb); have n6_ := am_ (hbox); have n7_ := am_ (gW hg (kZ HB)); have n8_ := am_ (gW hg (kZ HB)); have n9_ := am_ (gN hg (kB BK402)); have n10_ := am_ (gM hg (kB BK402)); clear HO408; clear HO411; clear HO414; clear HO417; clear BK402; clear HB; have HO408 := n0_; have HO411 := n1_; have HO414 := n2_; have HO417 := n3_; have BK402 := n4_; have HB := n5_; have BK418 := n6_; have GW418 := n7_; have GE418 := n8_; have NB402_418 := n9_; have NB418_402 := n10_; clear n0_ n1_ n2_ n3_ n4_ n5_ n6_ n7_ n8_ n9_ n10_; clear hb hbox hg) | ((with_reducible refine gate_dst (N := 9) rfl ?_); (try (refine gate_guard (by rfl) ?_; dsimp only)); refine box_event ?hg (N := 9) ?hd (cs := #[.slice none 0 0, .slice none 0 0]) (t := 34) ?hr ?_; (case hd => rfl); (case hg => rfl); (case hr => first | (go_simp; done) | (go_simp; rfl)); intro gb419 hg w26 hbox hb; have n0_ := am_ (Kd.R_below (kR HO408) hb); have n1_ := am_ (Kd.R_below (kR HO411) hb); have n2_ := am_ (Kd.R_below (kR HO414) hb); have n3_ := am_ (Kd.R_below (kR HO417) hb); have n4_ := am_ (blk_below (kB BK402) hb); have n5_ := am_ (blk_below (kB BK418) hb); have n6_ := am_ (below_step (kZ HB) hb); have n7_ := am_ (hbox); have n8_ := am_ (gW hg (kZ HB)); have n9_ := am_ (gW hg (kZ HB)); have n10_ := am_ (gN hg (kB BK402)); have n11_ := am_ (gM hg (kB BK402)); have n12_ := am_ (gN hg (kB BK418)); have n13_ := am_ (gM hg (kB BK418)); clear HO408; clear HO411; clear HO414; clear HO417; clear BK402; clear BK418; clear HB; have HO408 := n0_; have HO411 := n1_; have HO414 := n2_; have HO417 := n3_; have BK402 := n4_; have BK418 := n5_; have HB := n6_; have BK419 := n7_; have GW419 := n8_; have GE419 := n9_; have NB402_419 := n10_; have NB419_402 := n11_; have NB418_419 := n12_; have NB419_418 := n13_; clear n0_ n1_ n2_ n3_ n4_ n5_ n6_ n7_ n8_ n9_ n10_ n11_ n12_ n13_; clear hb hbox hg; obtain ⟨Ao27, co27, eo27⟩ := Kd.R_slice HO408.out; subst eo27; have hnb28 := NB418_402.out; have hnc28 := NB402_418.out; have hnb29 := NB418_419.out; have hnc29 := NB419_418.out; have hcz30_0 : w26.cell? ⟨gb418, 0, none⟩ = some (.slice none 0 0) := (blk_cell BK418.out 0).trans rfl; have hcz30_1 : w26.cell? ⟨gb418, 1, none⟩ = some (.slice none 0 0) := (blk_cell BK418.out 1).trans rfl; have hfz30_0 := blk_frozen BK418.out 0; have hfz30_1 := blk_frozen BK418.out 1; obtain ⟨Ao31, co31, eo31⟩ := Kd.R_slice HO411.out; subst eo31; obtain ⟨Ao32, co32, eo32⟩ := Kd.R_slice HO414.out; subst eo32; have hnb33 := NB419_402.out; have hnc33 := NB402_419.out; have hcz34_0 : w26.cell? ⟨gb419, 0, none⟩ = some (.slice none 0 0) := (blk_cell BK419.out 0).trans rfl; have hcz34_1 : w26.cell? ⟨gb419, 1, none⟩ = some (.slice none 0 0) := (blk_cell BK419.out 1).trans rfl; have hfz34_0 := blk_frozen BK419.out 0; have hfz34_1 := blk_frozen BK419.out 1; obtain ⟨Ao35, co35, eo35⟩ := Kd.R_slice HO417.out; subst eo35; have hcz36_0 : w26.cell? ⟨gb402, 0, none⟩ = some (.slice A0_0 l0_0.length c0_0) := (blk_cell BK402.out 0).trans rfl; have hcz36_1 : w26.cell? ⟨gb402, 1, none⟩ = some (.slice A0_1 l0_1.length c0_1) := (blk_cell BK402.out 1).trans rfl; have hfz36_0 := blk_frozen BK402.out 0; have hfz36_1 := blk_frozen BK402.out 1) | (go_at_call 26; (with_reducible refine (cantonref11_Cut.calls kj4 _ _ l0_0 _ _ l0_1 _ _ l1 a2 t420 t423 t426 t429 _ ?side1 ?side2 ?side3 ?side4 ?side5 ?side6 A21.out).mono ?_); (case side1 => exact Kd.C_below HR0_0.out (kZ HB)); (case side2 => exact HC0_0.out); (case side3 => exact Kd.C_below HR0_1.out (kZ HB)); (case side4 => exact HC0_1.out); (case side5 => exact Kd.C_below HR1.out (kZ HB)); (case side6 => exact HC1.out); rintro e w37 ⟨v421, v424, v427, v430, rfl, ho0, ho1, ho2, ho3, hb⟩; have n0_ := am_ (Kd.R_mono (Kd.R_told (Kd.R_told (Kd.R_old (by refine kE ?_; exact (Kd.R_mono (Kd.R_mono (Kd.R_far (p := ⟨gb419, 1, none⟩) (Kd.R_far (p := ⟨gb419, 0, none⟩) (Kd.R_far (p := ⟨gb418, 1, none⟩) (Kd.R_far (p := ⟨gb418, 0, none⟩) (Kd.R_types (Kd.R_types HO408.out BK418.out (by decide)) BK419.out (by decide)) (fun _ hk => hk.1.2) (.slice Ao27 t406.length co27)) (fun _ hk => hk.1.2) (.slice Ao31 t409.length co31)) (fun _ hk => hk.2) (.slice Ao32 t412.length co32)) (fun _ hk => hk.2) (.slice Ao35 t415.length co35)) (fun _ h_ => h_.1)) (fun _ h_ => h_.1))) hb) (Kd.R_base ho0)) (Kd.R_base ho2)) (fun _ h_ => h_.1)); have n1_ := am_ (Kd.R_mono (Kd.R_told (Kd.R_told (Kd.R_old (by refine kE ?_; exact (Kd.R_mono (Kd.R_mono (Kd.R_far (p := ⟨gb419, 1, none⟩) (Kd.R_far (p := ⟨gb419, 0, none⟩) (Kd.R_far (p := ⟨gb418, 1, none⟩) (Kd.R_far (p := ⟨gb418, 0, none⟩) (Kd.R_types (Kd.R_types HO411.out BK418.out (by decide)) BK419.out (by decide)) (fun _ hk => hk.1.2) (.slice Ao27 t406.length co27)) (fun _ hk => hk.1.2) (.slice Ao31 t409.length co31)) (fun _ hk => hk.2) (.slice Ao32 t412.length co32)) (fun _ hk => hk.2) (.slice Ao35 t415.length co35)) (fun _ h_ => h_.1)) (fun _ h_ => h_.1))) hb) (Kd.R_base ho1)) (Kd.R_base ho3)) (fun _ h_ => h_.1)); have n2_ := am_ (Kd.R_mono (Kd.R_told (Kd.R_told (Kd.R_old (by refine kE ?_; exact (Kd.R_mono (Kd.R_mono (Kd.R_far (p := ⟨gb419, 1, none⟩) (Kd.R_far (p := ⟨gb419, 0, none⟩) (Kd.R_far (p := ⟨gb418, 1, none⟩) (Kd.R_far (p := ⟨gb418, 0, none⟩) (Kd.R_types (Kd.R_types HO414.out BK418.out (by decide)) BK419.out (by decide)) (fun _ hk => hk.1.2) (.slice Ao27 t406.length co27)) (fun _ hk => hk.1.2) (.slice Ao31 t409.length co31)) (fun _ hk => hk.2) (.slice Ao32 t412.length co32)) (fun _ hk => hk.2) (.slice Ao35 t415.length co35)) (fun _ h_ => h_.1)) (fun _ h_ => h_.1))) hb) (Kd.R_base ho0)) (Kd.R_base ho2)) (fun _ h_ => h_.1)); have n3_ := am_ (Kd.R_mono (Kd.R_told (Kd.R_told (Kd.R_old (by refine kE ?_; exact (Kd.R_mono (Kd.R_mono (Kd.R_far (p := ⟨gb419, 1, none⟩) (Kd.R_far (p := ⟨gb419, 0, none⟩) (Kd.R_far (p := ⟨gb418, 1, none⟩) (Kd.R_far (p := ⟨gb418, 0, none⟩) (Kd.R_types (Kd.R_types HO417.out BK418.out (by decide)) BK419.out (by decide)) (fun _ hk => hk.1.2) (.slice Ao27 t406.length co27)) (fun _ hk => hk.1.2) (.slice Ao31 t409.length co31)) (fun _ hk => hk.2) (.slice Ao32 t412.length co32)) (fun _ hk => hk.2) (.slice Ao35 t415.length co35)) (fun _ h_ => h_.1)) (fun _ h_ => h_.1))) hb) (Kd.R_base ho1)) (Kd.R_base ho3)) (fun _ h_ => h_.1)); have n4_ := am_ (Kd.R_lower (Kd.R_new' (Kd.R_new' ho0 (Kd.R_lt (by refine kE ?_; exact (Kd.R_mono (Kd.R_mono (Kd.R_far (p := ⟨gb419, 1, none⟩) (Kd.R_far (p := ⟨gb419, 0, none⟩) (Kd.R_far (p := ⟨gb418, 1, none⟩) (Kd.R_far (p := ⟨gb418, 0, none⟩) (Kd.R_types (Kd.R_types HO408.out BK418.out (by decide)) BK419.out (by decide)) (fun _ hk => hk.1.2) (.slice Ao27 t406.length co27)) (fun _ hk => hk.1.2) (.slice Ao31 t409.length co31)) (fun _ hk => hk.2) (.slice Ao32 t412.length co32)) (fun _ hk => hk.2) (.slice Ao35 t415.length co35)) (fun _ h_ => h_.1)) (fun _ h_ => h_.1))))) (Kd.R_lt (by refine kE ?_; exact (Kd.R_mono (Kd.R_mono (Kd.R_far (p := ⟨gb419, 1, none⟩) (Kd.R_far (p := ⟨gb419, 0, none⟩) (Kd.R_far (p := ⟨gb418, 1, none⟩) (Kd.R_far (p := ⟨gb418, 0, none⟩) (Kd.R_types (Kd.R_types HO414.out BK418.out (by decide)) BK419.out (by decide)) (fun _ hk => hk.1.2) (.slice Ao27 t406.length co27)) (fun _ hk => hk.1.2) (.slice Ao31 t409.length co31)) (fun _ hk => hk.2) (.slice Ao32 t412.length co32)) (fun _ hk => hk.2) (.slice Ao35 t415.length co35)) (fun _ h_ => h_.1)) (fun _ h_ => h_.1))))) (below_size (kZ HB))); have n5_ := am_ (Kd.R_lower (Kd.R_new' (Kd.R_new' ho1 (Kd.R_lt (by refine kE ?_; exact (Kd.R_mono (Kd.R_mono (Kd.R_far (p := ⟨gb419, 1, none⟩) (Kd.R_far (p := ⟨gb419, 0, none⟩) (Kd.R_far (p := ⟨gb418, 1, none⟩) (Kd.R_far (p := ⟨gb418, 0, none⟩) (Kd.R_types (Kd.R_types HO411.out BK418.out (by decide)) BK419.out (by decide)) (fun _ hk => hk.1.2) (.slice Ao27 t406.length co27)) (fun _ hk => hk.1.2) (.slice Ao31 t409.length co31)) (fun _ hk => hk.2) (.slice Ao32 t412.length co32)) (fun _ hk => hk.2) (.slice Ao35 t415.length co35)) (fun _ h_ => h_.1)) (fun _ h_ => h_.1))))) (Kd.R_lt (by refine kE ?_; exact (Kd.R_mono (Kd.R_mono (Kd.R_far (p := ⟨gb419, 1, none⟩) (Kd.R_far (p := ⟨gb419, 0, none⟩) (Kd.R_far (p := ⟨gb418, 1, none⟩) (Kd.R_far (p := ⟨gb418, 0, none⟩) (Kd.R_types (Kd.R_types HO417.out BK418.out (by decide)) BK419.out (by decide)) (fun _ hk => hk.1.2) (.slice Ao27 t406.length co27)) (fun _ hk => hk.1.2) (.slice Ao31 t409.length co31)) (fun _ hk => hk.2) (.slice Ao32 t412.length co32)) (fun _ hk => hk.2) (.slice Ao35 t415.length co35)) (fun _ h_ => h_.1)) (fun _ h_ => h_.1))))) (below_size (kZ HB))); have n6_ := am_ (Kd.R_lower (Kd.R_new' (Kd.R_new' ho2 (Kd.R_lt (by refine kE ?_; exact (Kd.R_mono (Kd.R_mono (Kd.R_far (p := ⟨gb419, 1, none⟩) (Kd.R_far (p := ⟨gb419, 0, none⟩) (Kd.R_far (p := ⟨gb418, 1, none⟩) (Kd.R_far (p := ⟨gb418, 0, none⟩) (Kd.R_types (Kd.R_types HO408.out BK418.out (by decide)) BK419.out (by decide)) (fun _ hk => hk.1.2) (.slice Ao27 t406.length co27)) (fun _ hk => hk.1.2) (.slice Ao31 t409.length co31)) (fun _ hk => hk.2) (.slice Ao32 t412.length co32)) (fun _ hk => hk.2) (.slice Ao35 t415.length co35)) (fun _ h_ => h_.1)) (fun _ h_ => h_.1))))) (Kd.R_lt (by refine kE ?_; exact (Kd.R_mono (Kd.R_mono (Kd.R_far (p := ⟨gb419, 1, none⟩) (Kd.R_far (p := ⟨gb419, 0, none⟩) (Kd.R_far (p := ⟨gb418, 1, none⟩) (Kd.R_far (p := ⟨gb418, 0, none⟩) (Kd.R_types (Kd.R_types HO414.out BK418.out (by decide)) BK419.out (by decide)) (fun _ hk => hk.1.2) (.slice Ao27 t406.length co27)) (fun _ hk => hk.1.2) (.slice Ao31 t409.length co31)) (fun _ hk => hk.2) (.slice Ao32 t412.length co32)) (fun _ hk => hk.2) (.slice Ao35 t415.length co35)) (fun _ h_ => h_.1)) (fun _ h_ => h_.1))))) (below_size (kZ HB))); have n7_ := am_ (Kd.R_lower (Kd.R_new' (Kd.R_new' ho3 (Kd.R_lt (by refine kE ?_; exact (Kd.R_mono (Kd.R_mono (Kd.R_far (p := ⟨gb419, 1, none⟩) (Kd.R_far (p := ⟨gb419, 0, none⟩) (Kd.R_far (p := ⟨gb418, 1, none⟩) (Kd.R_far (p := ⟨gb418, 0, none⟩) (Kd.R_types (Kd.R_types HO411.out BK418.out (by decide)) BK419.out (by decide)) (fun _ hk => hk.1.2) (.slice Ao27 t406.length co27)) (fun _ hk => hk.1.2) (.slice Ao31 t409.length co31)) (fun _ hk => hk.2) (.slice Ao32 t412.length co32)) (fun _ hk => hk.2) (.slice Ao35 t415.length co35)) (fun _ h_ => h_.1)) (fun _ h_ => h_.1))))) (Kd.R_lt (by refine kE ?_; exact (Kd.R_mono (Kd.R_mono (Kd.R_far (p := ⟨gb419, 1, none⟩) (Kd.R_far (p := ⟨gb419, 0, none⟩) (Kd.R_far (p := ⟨gb418, 1, none⟩) (Kd.R_far (p := ⟨gb418, 0, none⟩) (Kd.R_types (Kd.R_types HO417.out BK418.out (by decide)) BK419.out (by decide)) (fun _ hk => hk.1.2) (.slice Ao27 t406.length co27)) (fun _ hk => hk.1.2) (.slice Ao31 t409.length co31)) (fun _ hk => hk.2) (.slice Ao32 t412.length co32)) (fun _ hk => hk.2) (.slice Ao35 t415.length co35)) (fun _ h_ => h_.1)) (fun _ h_ => h_.1))))) (below_size (kZ HB))); have n8_ := am_ (blk_below (g := gb402) (o := .cells #[.slice A0_0 l0_0.length c0_0, .slice A0_1 l0_1.length c0_1] 34 (0, 0)) (by refine kD ?_; refine blk_far ?_ NB402_419.out _; refine kD ?_; refine blk_far ?_ NB402_419.out _; refine kD ?_; refine blk_far ?_ NB402_418.out _; refine kD ?_; refine blk_far ?_ NB402_418.out _; refine kD ?_; exact BK402.out) hb); have n9_ := am_ (blk_below (g := gb418) (o := .cells #[.slice Ao27 t406.length co27, .slice Ao31 t409.length co31] 34 (0, 0)) (by refine kD ?_; refine blk_far ?_ NB418_419.out _; refine kD ?_; refine blk_far ?_ NB418_419.out _; refine kD ?_; refine blk_put (cs := #[.slice Ao27 t406.length co27, .slice none 0 0]) ?_ 1 _ rfl; refine kD ?_; refine blk_put (cs := #[.slice none 0 0, .slice none 0 0]) ?_ 0 _ rfl; refine kD ?_; exact BK418.out) hb); have n10_ := am_ (blk_below (g := gb419) (o := .cells #[.slice Ao32 t412.length co32, .slice Ao35 t415.length co35] 34 (0, 0)) (by refine kD ?_; refine blk_put (cs := #[.slice Ao32 t412.length co32, .slice none 0 0]) ?_ 1 _ rfl; refine kD ?_; refine blk_put (cs := #[.slice none 0 0, .slice none 0 0]) ?_ 0 _ rfl; refine kD ?_; refine blk_far ?_ NB419_418.out _; refine kD ?_; refine blk_far ?_ NB419_418.out _; refine kD ?_; exact BK419.out) hb); have n11_ := am_ (below_step (kZ HB) hb); clear HO408; clear HO411; clear HO414; clear HO417; clear BK402; clear BK418; clear BK419; clear HB; have HO408 := n0_; have HO411 := n1_; have HO414 := n2_; have HO417 := n3_; have HO422 := n4_; have HO425 := n5_; have HO428 := n6_; have HO431 := n7_; have BK402 := n8_; have BK418 := n9_; have BK419 := n10_; have HB := n11_; clear n0_ n1_ n2_ n3_ n4_ n5_ n6_ n7_ n8_ n9_ n10_ n11_; (try clear hb); (try clear hb2); (try clear hk); (try clear hi); (try clear ho0); (try clear ho1); (try clear ho2); (try clear ho3)) | ((with_reducible refine gate_dst (N := 10) rfl ?_); (try (refine gate_guard (by rfl) ?_; dsimp only)); refine box_event ?hg (N := 10) ?hd (cs := #[.slice none 0 0, .slice none 0 0]) (t := 34) ?hr ?_; (case hd => rfl); (case hg => rfl); (case hr => first | (go_simp; done) | (go_simp; rfl)); intro gb432 hg w38 hbox hb; have n0_ := am_ (Kd.R_below (kR HO408) hb); have n1_ := am_ (Kd.R_below (kR HO411) hb); have n2_ := am_ (Kd.R_below (kR HO414) hb); have n3_ := am_ (Kd.R_below (kR HO417) hb); have n4_ := am_ (Kd.R_below (kR HO422) hb); have n5_ := am_ (Kd.R_below (kR HO425) hb); have n6_ := am_ (Kd.R_below (kR HO428) hb); have n7_ := am_ (Kd.R_below (kR HO431) hb); have n8_ := am_ (blk_below (kB BK402) hb); have n9_ := am_ (blk_below (kB BK418) hb); have n10_ := am_ (blk_below (kB BK419) hb); have n11_ := am_ (below_step (kZ HB) hb); have n12_ := am_ (hbox); have n13_ := am_ (gW hg (kZ HB)); have n14_ := am_ (gW hg (kZ HB)); have n15_ := am_ (gN hg (kB BK402)); have n16_ := am_ (gM hg (kB BK402)); have n17_ := am_ (gN hg (kB BK418)); have n18_ := am_ (gM hg (kB BK418)); have n19_ := am_ (gN hg (kB BK419)); have n20_ := am_ (gM hg (kB BK419)); clear HO408; clear HO411; clear HO414; clear HO417; clear HO422; clear HO425; clear HO428; clear HO431; clear BK402; clear BK418; clear BK419; clear HB; have HO408 := n0_; have HO411 := n1_; have HO414 := n2_; have HO417 := n3_; have HO422 := n4_; have HO425 := n5_; have HO428 := n6_; have HO431 := n7_; have BK402 := n8_; have BK418 := n9_; have BK419 := n10_; have HB := n11_; have BK432 := n12_; have GW432 := n13_; have GE432 := n14_; have NB402_432 := n15_; have NB432_402 := n16_; have NB418_432 := n17_; have NB432_418 := n18_; have NB419_432 := n19_; have NB432_419 := n20_; clear n0_ n1_ n2_ n3_ n4_ n5_ n6_ n7_ n8_ n9_ n10_ n11_ n12_ n13_ n14_ n15_ n16_ n17_ n18_ n19_ n20_; clear hb hbox hg) | ((with_reducible refine gate_dst (N := 11) rfl ?_); (try (refine gate_guard (by rfl) ?_; dsimp only)); refine box_event ?hg (N := 11) ?hd (cs := #[.slice none 0 0, .slice none 0 0]) (t := 34) ?hr ?_; (case hd => rfl); (case hg => rfl); (case hr => first | (go_simp; done) | (go_simp; rfl)); intro gb433 hg w39 hbox hb; have n0_ := am_ (Kd.R_below (kR HO408) hb); have n1_ := am_ (Kd.R_below (kR HO411) hb); have n2_ := am_ (Kd.R_below (kR HO414) hb); have n3_ := am_ (Kd.R_below (kR HO417) hb); have n4_ := am_ (Kd.R_below (kR HO422) hb); have n5_ := am_ (Kd.R_below (kR HO425) hb); have n6_ := am_ (Kd.R_below (kR HO428) hb); have n7_ := am_ (Kd.R_below (kR HO431) hb); have n8_ := am_ (blk_below (kB BK402) hb); have n9_ := am_ (blk_below (kB BK418) hb); have n10_ := am_ (blk_below (kB BK419) hb); have n11_ := am_ (blk_below (kB BK432) hb); have n12_ := am_ (below_step (kZ HB) hb); have n13_ := am_ (hbox); have n14_ := am_ (gW hg (kZ HB)); have n15_ := am_ (gW hg (kZ HB)); have n16_ := am_ (gN hg (kB BK402)); have n17_ := am_ (gM hg (kB BK402)); have n18_ := am_ (gN hg (kB BK418)); have n19_ := am_ (gM hg (kB BK418)); have n20_ := am_ (gN hg (kB BK419)); have n21_ := am_ (gM hg (kB BK419)); have n22_ := am_ (gN hg (kB BK432)); have n23_ := am_ (gM hg (kB BK432)); clear HO408; clear HO411; clear HO414; clear HO417; clear HO422; clear HO425; clear HO428; clear HO431; clear BK402; clear BK418; clear BK419; clear BK432; clear HB; have HO408 := n0_; have HO411 := n1_; have HO414 := n2_; have HO417 := n3_; have HO422 := n4_; have HO425 := n5_; have HO428 := n6_; have HO431 := n7_; have BK402 := n8_; have BK418 := n9_; have BK419 := n10_; have BK432 := n11_; have HB := n12_; have BK433 := n13_; have GW433 := n14_; have GE433 := n15_; have NB402_433 := n16_; have NB433_402 := n17_; have NB418_433 := n18_; have NB433_418 := n19_; have NB419_433 := n20_; have NB433_419 := n21_; have NB432_433 := n22_; have NB433_432 := n23_; clear n0_ n1_ n2_ n3_ n4_ n5_ n6_ n7_ n8_ n9_ n10_ n11_ n12_ n13_ n14_ n15_ n16_ n17_ n18_ n19_ n20_ n21_ n22_ n23_; clear hb hbox hg; obtain ⟨Ao40, co40, eo40⟩ := Kd.R_slice HO422.out; subst eo40; have hnb41 := NB432_402.out; have hnc41 := NB402_432.out; have hnb42 := NB432_418.out; have hnc42 := NB418_432.out; have hnb43 := NB432_419.out; have hnc43 := NB419_432.out; have hnb44 := NB432_433.out; have hnc44 := NB433_432.out; have hcz45_0 : w39.cell? ⟨gb432, 0, none⟩ = some (.slice none 0 0) := (blk_cell BK432.out 0).trans rfl; have hcz45_1 : w39.cell? ⟨gb432, 1, none⟩ = some (.slice none 0 0) := (blk_cell BK432.out 1).trans rfl; have hfz45_0 := blk_frozen BK432.out 0; have hfz45_1 := blk_frozen BK432.out 1; obtain ⟨Ao46, co46, eo46⟩ := Kd.R_slice HO425.out; subst eo46; obtain ⟨Ao47, co47, eo47⟩ := Kd.R_slice HO428.out; subst eo47; have hnb48 := NB433_402.out; have hnc48 := NB402_433.out; have hnb49 := NB433_418.out; have hnc49 := NB418_433.out; have hnb50 := NB433_419.out; have hnc50 := NB419_433.out; have hcz51_0 : w39.cell? ⟨gb433, 0, none⟩ = some (.slice none 0 0) := (blk_cell BK433.out 0).trans rfl; have hcz51_1 : w39.cell? ⟨gb433, 1, none⟩ = some (.slice none 0 0) := (blk_cell BK433.out 1).trans rfl; have hfz51_0 := blk_frozen BK433.out 0; have hfz51_1 := blk_frozen BK433.out 1; obtain ⟨Ao52, co52, eo52⟩ := Kd.R_slice HO431.out; subst eo52))
    repeat (go_quiet (fail); go_upto_region 6 with (fail))
    (try simp only [Act.put, List.setIfInBounds_toArray, List.set_cons_zero, List.set_cons_succ])
    go_cut [51] (fun v51 wc => ∃ (kq : Nat) (x51_21 : Bool), v51 = .bool x51_21 ∧ Aside0 (cantonlaw11_OwnedCuts.j1 kq l1 t403 x51_21 l0_0 l0_1 t406 t409 t412 t415 = some r) ∧ Aside0 (kq ≤ kj4) ∧ Aside0 (Kd.R k40 40 wc w.heap.size (fun k_ => some k_ ≠ ((.slice Ao32 t412.length co32) : Value).ownBlock ∧ some k_ ≠ ((.slice Ao40 t420.length co40) : Value).ownBlock ∧ some k_ ≠ ((.slice Ao47 t426.length co47) : Value).ownBlock) (.slice Ao27 t406.length co27) t406) ∧ Aside0 (Kd.R k59 59 wc w.heap.size (fun k_ => some k_ ≠ ((.slice Ao35 t415.length co35) : Value).ownBlock ∧ some k_ ≠ ((.slice Ao46 t423.length co46) : Value).ownBlock ∧ some k_ ≠ ((.slice Ao52 t429.length co52) : Value).ownBlock) (.slice Ao31 t409.length co31) t409) ∧ Aside0 (Kd.R k40 40 wc w.heap.size (fun k_ => some k_ ≠ ((.slice Ao27 t406.length co27) : Value).ownBlock ∧ some k_ ≠ ((.slice Ao40 t420.length co40) : Value).ownBlock ∧ some k_ ≠ ((.slice Ao47 t426.length co47) : Value).ownBlock) (.slice Ao32 t412.length co32) t412) ∧ Aside0 (Kd.R k59 59 wc w.heap.size (fun k_ => some k_ ≠ ((.slice Ao31 t409.length co31) : Value).ownBlock ∧ some k_ ≠ ((.slice Ao46 t423.length co46) : Value).ownBlock ∧ some k_ ≠ ((.slice Ao52 t429.length co52) : Value).ownBlock) (.slice Ao35 t415.length co35) t415) ∧ Aside0 (Kd.R k40 40 wc w.heap.size (fun k_ => some k_ ≠ ((.slice Ao27 t406.length co27) : Value).ownBlock ∧ some k_ ≠ ((.slice Ao32 t412.length co32) : Value).ownBlock ∧ some k_ ≠ ((.slice Ao47 t426.length co47) : Value).ownBlock) (.slice Ao40 t420.length co40) t420) ∧ Aside0 (Kd.R k59 59 wc w.heap.size (fun k_ => some k_ ≠ ((.slice Ao31 t409.length co31) : Value).ownBlock ∧ some k_ ≠ ((.slice Ao35 t415.length co35) : Value).ownBlock ∧ some k_ ≠ ((.slice Ao52 t429.length co52) : Value).ownBlock) (.slice Ao46 t423.length co46) t423) ∧ Aside0 (Kd.R k40 40 wc w.heap.size (fun k_ => some k_ ≠ ((.slice Ao27 t406.length co27) : Value).ownBlock ∧ some k_ ≠ ((.slice Ao32 t412.length co32) : Value).ownBlock ∧ some k_ ≠ ((.slice Ao40 t420.length co40) : Value).ownBlock) (.slice Ao47 t426.length co47) t426) ∧ Aside0 (Kd.R k59 59 wc w.heap.size (fun k_ => some k_ ≠ ((.slice Ao31 t409.length co31) : Value).ownBlock ∧ some k_ ≠ ((.slice Ao35 t415.length co35) : Value).ownBlock ∧ some k_ ≠ ((.slice Ao46 t423.length co46) : Value).ownBlock) (.slice Ao52 t429.length co52) t429) ∧ Aside0 (wc.heap[gb402]? = some (.cells #[(.slice A0_0 l0_0.length c0_0), (.slice A0_1 l0_1.length c0_1)] 34 (0, 0))) ∧ Aside0 (wc.heap[gb418]? = some (.cells #[(.slice Ao27 t406.length co27), (.slice Ao31 t409.length co31)] 34 (0, 0))) ∧ Aside0 (wc.heap[gb419]? = some (.cells #[(.slice Ao32 t412.length co32), (.slice Ao35 t415.length co35)] 34 (0, 0))) ∧ Aside0 (wc.heap[gb432]? = some (.cells #[(.slice Ao40 t420.length co40), (.slice Ao46 t423.length co46)] 34 (0, 0))) ∧ Aside0 (wc.heap[gb433]? = some (.cells #[(.slice Ao47 t426.length co47), (.slice Ao52 t429.length co52)] 34 (0, 0))) ∧ Aside0 (Below w.heap.size w wc))
    case first =>
     have H := HC22.out
     clear HC22
     replace H := Option.bind_eq_some_iff.mp H
     obtain ⟨t434, A530, H⟩ := H
     replace H : (if t434 = true then ((cantonref07_Same.f kj4 t412 t415 t426 t429).bind fun t435 => (cantonlaw11_OwnedCuts.j1 kj4 l1 t403 (!t435) l0_0 l0_1 t406 t409 t412 t415)) else (cantonlaw11_OwnedCuts.j1 kj4 l1 t403 true l0_0 l0_1 t406 t409 t412 t415)) = some r := H
     have A53 := am_ A530
     clear A530
     by_cases c54 : t434 = true
     rotate_left
     ·replace c54 := Bool.eq_false_iff.mpr c54
      subst c54
      have H1 : (cantonlaw11_OwnedCuts.j1 kj4 l1 t403 true l0_0 l0_1 t406 t409 t412 t415) = some r := by rw [if_neg (show ¬ (false = true) by decide)] at H; exact H
      clear H
      have H := H1
      clear H1
      have H' := am_ H
      clear H
      have hnb72 := NB418_402.out
      have hnc72 := NB402_418.out
      have hnb73 := NB418_419.out
      have hnc73 := NB419_418.out
      have hnb74 := NB418_432.out
      have hnc74 := NB432_418.out
      have hnb75 := NB418_433.out
      have hnc75 := NB433_418.out
      have hcz76_0 : w39.cell? ⟨gb418, 0, none⟩ = some (.slice Ao27 t406.length co27) := (blk_cell BK418.out 0).trans rfl
      have hcz76_1 : w39.cell? ⟨gb418, 1, none⟩ = some (.slice Ao31 t409.length co31) := (blk_cell BK418.out 1).trans rfl
      have hfz76_0 := blk_frozen BK418.out 0
      have hfz76_1 := blk_frozen BK418.out 1
      have hnb77 := NB432_402.out
      have hnc77 := NB402_432.out
      have hnb78 := NB432_419.out
      have hnc78 := NB419_432.out
      have hnb79 := NB432_433.out
      have hnc79 := NB433_432.out
      have hcz80_0 : w39.cell? ⟨gb432, 0, none⟩ = some (.slice none 0 0) := (blk_cell BK432.out 0).trans rfl
      have hcz80_1 : w39.cell? ⟨gb432, 1, none⟩ = some (.slice none 0 0) := (blk_cell BK432.out 1).trans rfl
      have hfz80_0 := blk_frozen BK432.out 0
      have hfz80_1 := blk_frozen BK432.out 1
      go_wp2_with (first | (go_at_call 27; (with_reducible refine (cantonref07_Same.calls kj4 _ _ t406 _ _ t409 _ _ t420 _ _ t423 false _ ?side1 ?side2 ?side3 ?side4 ?side5 ?side6 ?side7 ?side8 A53.out).mono ?_); (case side1 => refine (Kd.R_reads' (e := 40) (base := w.heap.size) (ok := fun k_ => ((some k_ ≠ (.slice Ao32 t412.length co32 : Value).ownBlock ∧ some k_ ≠ (.slice Ao40 t420.length co40 : Value).ownBlock) ∧ some k_ ≠ (.slice Ao47 t426.length co47 : Value).ownBlock)) (n := t406.length) (c := co27) ?_).2.2; exact (by refine kE ?_; exact (Kd.R_mono (Kd.R_mono (Kd.R_far (p := ⟨gb433, 1, none⟩) (Kd.R_far (p := ⟨gb433, 0, none⟩) (Kd.R_far (p := ⟨gb432, 1, none⟩) (Kd.R_far (p := ⟨gb432, 0, none⟩) (Kd.R_types (Kd.R_types HO408.out BK432.out (by decide)) BK433.out (by decide)) (fun _ hk => hk.1.2) (.slice Ao40 t420.length co40)) (fun _ hk => hk.1.2) (.slice Ao46 t423.length co46)) (fun _ hk => hk.2) (.slice Ao47 t426.length co47)) (fun _ hk => hk.2) (.slice Ao52 t429.length co52)) (fun _ h_ => h_.1)) (fun _ h_ => h_.1)))); (case side2 => exact (Kd.R_reads' HO408.out).2.1); (case side3 => refine (Kd.R_reads' (e := 59) (base := w.heap.size) (ok := fun k_ => ((some k_ ≠ (.slice Ao35 t415.length co35 : Value).ownBlock ∧ some k_ ≠ (.slice Ao46 t423.length co46 : Value).ownBlock) ∧ some k_ ≠ (.slice Ao52 t429.length co52 : Value).ownBlock)) (n := t409.length) (c := co31) ?_).2.2; exact (by refine kE ?_; exact (Kd.R_mono (Kd.R_mono (Kd.R_far (p := ⟨gb433, 1, none⟩) (Kd.R_far (p := ⟨gb433, 0, none⟩) (Kd.R_far (p := ⟨gb432, 1, none⟩) (Kd.R_far (p := ⟨gb432, 0, none⟩) (Kd.R_types (Kd.R_types HO411.out BK432.out (by decide)) BK433.out (by decide)) (fun _ hk => hk.1.2) (.slice Ao40 t420.length co40)) (fun _ hk => hk.1.2) (.slice Ao46 t423.length co46)) (fun _ hk => hk.2) (.slice Ao47 t426.length co47)) (fun _ hk => hk.2) (.slice Ao52 t429.length co52)) (fun _ h_ => h_.1)) (fun _ h_ => h_.1)))); (case side4 => exact (Kd.R_reads' HO411.out).2.1); (case side5 => refine (Kd.R_reads' (e := 40) (base := w.heap.size) (ok := fun k_ => ((some k_ ≠ (.slice Ao47 t426.length co47 : Value).ownBlock ∧ some k_ ≠ (.slice Ao27 t406.length co27 : Value).ownBlock) ∧ some k_ ≠ (.slice Ao32 t412.length co32 : Value).ownBlock)) (n := t420.length) (c := co40) ?_).2.2; exact (by refine kE ?_; exact (Kd.R_mono (Kd.R_mono (Kd.R_far (p := ⟨gb433, 1, none⟩) (Kd.R_far (p := ⟨gb433, 0, none⟩) (Kd.R_far (p := ⟨gb432, 1, none⟩) (Kd.R_far (p := ⟨gb432, 0, none⟩) (Kd.R_types (Kd.R_types HO422.out BK432.out (by decide)) BK433.out (by decide)) (fun _ hk => hk.1.2) (.slice Ao40 t420.length co40)) (fun _ hk => hk.1.2) (.slice Ao46 t423.length co46)) (fun _ hk => hk.2) (.slice Ao47 t426.length co47)) (fun _ hk => hk.2) (.slice Ao52 t429.length co52)) (fun _ h_ => h_.1)) (fun _ h_ => h_.1)))); (case side6 => exact (Kd.R_reads' HO422.out).2.1); (case side7 => refine (Kd.R_reads' (e := 59) (base := w.heap.size) (ok := fun k_ => ((some k_ ≠ (.slice Ao52 t429.length co52 : Value).ownBlock ∧ some k_ ≠ (.slice Ao31 t409.length co31 : Value).ownBlock) ∧ some k_ ≠ (.slice Ao35 t415.length co35 : Value).ownBlock)) (n := t423.length) (c := co46) ?_).2.2; exact (by refine kE ?_; exact (Kd.R_mono (Kd.R_mono (Kd.R_far (p := ⟨gb433, 1, none⟩) (Kd.R_far (p := ⟨gb433, 0, none⟩) (Kd.R_far (p := ⟨gb432, 1, none⟩) (Kd.R_far (p := ⟨gb432, 0, none⟩) (Kd.R_types (Kd.R_types HO425.out BK432.out (by decide)) BK433.out (by decide)) (fun _ hk => hk.1.2) (.slice Ao40 t420.length co40)) (fun _ hk => hk.1.2) (.slice Ao46 t423.length co46)) (fun _ hk => hk.2) (.slice Ao47 t426.length co47)) (fun _ hk => hk.2) (.slice Ao52 t429.length co52)) (fun _ h_ => h_.1)) (fun _ h_ => h_.1)))); (case side8 => exact (Kd.R_reads' HO425.out).2.1); rintro e w81 ⟨rfl, hb⟩; have n0_ := am_ (Kd.R_below (by refine kE ?_; exact (Kd.R_mono (Kd.R_mono (Kd.R_far (p := ⟨gb433, 1, none⟩) (Kd.R_far (p := ⟨gb433, 0, none⟩) (Kd.R_far (p := ⟨gb432, 1, none⟩) (Kd.R_far (p := ⟨gb432, 0, none⟩) (Kd.R_types (Kd.R_types HO408.out BK432.out (by decide)) BK433.out (by decide)) (fun _ hk => hk.1.2) (.slice Ao40 t420.length co40)) (fun _ hk => hk.1.2) (.slice Ao46 t423.length co46)) (fun _ hk => hk.2) (.slice Ao47 t426.length co47)) (fun _ hk => hk.2) (.slice Ao52 t429.length co52)) (fun _ h_ => h_.1)) (fun _ h_ => h_.1))) hb); have n1_ := am_ (Kd.R_below (by refine kE ?_; exact (Kd.R_mono (Kd.R_mono (Kd.R_far (p := ⟨gb433, 1, none⟩) (Kd.R_far (p := ⟨gb433, 0, none⟩) (Kd.R_far (p := ⟨gb432, 1, none⟩) (Kd.R_far (p := ⟨gb432, 0, none⟩) (Kd.R_types (Kd.R_types HO411.out BK432.out (by decide)) BK433.out (by decide)) (fun _ hk => hk.1.2) (.slice Ao40 t420.length co40)) (fun _ hk => hk.1.2) (.slice Ao46 t423.length co46)) (fun _ hk => hk.2) (.slice Ao47 t426.length co47)) (fun _ hk => hk.2) (.slice Ao52 t429.length co52)) (fun _ h_ => h_.1)) (fun _ h_ => h_.1))) hb); have n2_ := am_ (Kd.R_below (by refine kE ?_; exact (Kd.R_mono (Kd.R_mono (Kd.R_far (p := ⟨gb433, 1, none⟩) (Kd.R_far (p := ⟨gb433, 0, none⟩) (Kd.R_far (p := ⟨gb432, 1, none⟩) (Kd.R_far (p := ⟨gb432, 0, none⟩) (Kd.R_types (Kd.R_types HO414.out BK432.out (by decide)) BK433.out (by decide)) (fun _ hk => hk.1.2) (.slice Ao40 t420.length co40)) (fun _ hk => hk.1.2) (.slice Ao46 t423.length co46)) (fun _ hk => hk.2) (.slice Ao47 t426.length co47)) (fun _ hk => hk.2) (.slice Ao52 t429.length co52)) (fun _ h_ => h_.1)) (fun _ h_ => h_.1))) hb); have n3_ := am_ (Kd.R_below (by refine kE ?_; exact (Kd.R_mono (Kd.R_mono (Kd.R_far (p := ⟨gb433, 1, none⟩) (Kd.R_far (p := ⟨gb433, 0, none⟩) (Kd.R_far (p := ⟨gb432, 1, none⟩) (Kd.R_far (p := ⟨gb432, 0, none⟩) (Kd.R_types (Kd.R_types HO417.out BK432.out (by decide)) BK433.out (by decide)) (fun _ hk => hk.1.2) (.slice Ao40 t420.length co40)) (fun _ hk => hk.1.2) (.slice Ao46 t423.length co46)) (fun _ hk => hk.2) (.slice Ao47 t426.length co47)) (fun _ hk => hk.2) (.slice Ao52 t429.length co52)) (fun _ h_ => h_.1)) (fun _ h_ => h_.1))) hb); have n4_ := am_ (Kd.R_below (by refine kE ?_; exact (Kd.R_mono (Kd.R_mono (Kd.R_far (p := ⟨gb433, 1, none⟩) (Kd.R_far (p := ⟨gb433, 0, none⟩) (Kd.R_far (p := ⟨gb432, 1, none⟩) (Kd.R_far (p := ⟨gb432, 0, none⟩) (Kd.R_types (Kd.R_types HO422.out BK432.out (by decide)) BK433.out (by decide)) (fun _ hk => hk.1.2) (.slice Ao40 t420.length co40)) (fun _ hk => hk.1.2) (.slice Ao46 t423.length co46)) (fun _ hk => hk.2) (.slice Ao47 t426.length co47)) (fun _ hk => hk.2) (.slice Ao52 t429.length co52)) (fun _ h_ => h_.1)) (fun _ h_ => h_.1))) hb); have n5_ := am_ (Kd.R_below (by refine kE ?_; exact (Kd.R_mono (Kd.R_mono (Kd.R_far (p := ⟨gb433, 1, none⟩) (Kd.R_far (p := ⟨gb433, 0, none⟩) (Kd.R_far (p := ⟨gb432, 1, none⟩) (Kd.R_far (p := ⟨gb432, 0, none⟩) (Kd.R_types (Kd.R_types HO425.out BK432.out (by decide)) BK433.out (by decide)) (fun _ hk => hk.1.2) (.slice Ao40 t420.length co40)) (fun _ hk => hk.1.2) (.slice Ao46 t423.length co46)) (fun _ hk => hk.2) (.slice Ao47 t426.length co47)) (fun _ hk => hk.2) (.slice Ao52 t429.length co52)) (fun _ h_ => h_.1)) (fun _ h_ => h_.1))) hb); have n6_ := am_ (Kd.R_below (by refine kE ?_; exact (Kd.R_mono (Kd.R_mono (Kd.R_far (p := ⟨gb433, 1, none⟩) (Kd.R_far (p := ⟨gb433, 0, none⟩) (Kd.R_far (p := ⟨gb432, 1, none⟩) (Kd.R_far (p := ⟨gb432, 0, none⟩) (Kd.R_types (Kd.R_types HO428.out BK432.out (by decide)) BK433.out (by decide)) (fun _ hk => hk.1.2) (.slice Ao40 t420.length co40)) (fun _ hk => hk.1.2) (.slice Ao46 t423.length co46)) (fun _ hk => hk.2) (.slice Ao47 t426.length co47)) (fun _ hk => hk.2) (.slice Ao52 t429.length co52)) (fun _ h_ => h_.1)) (fun _ h_ => h_.1))) hb); have n7_ := am_ (Kd.R_below (by refine kE ?_; exact (Kd.R_mono (Kd.R_mono (Kd.R_far (p := ⟨gb433, 1, none⟩) (Kd.R_far (p := ⟨gb433, 0, none⟩) (Kd.R_far (p := ⟨gb432, 1, none⟩) (Kd.R_far (p := ⟨gb432, 0, none⟩) (Kd.R_types (Kd.R_types HO431.out BK432.out (by decide)) BK433.out (by decide)) (fun _ hk => hk.1.2) (.slice Ao40 t420.length co40)) (fun _ hk => hk.1.2) (.slice Ao46 t423.length co46)) (fun _ hk => hk.2) (.slice Ao47 t426.length co47)) (fun _ hk => hk.2) (.slice Ao52 t429.length co52)) (fun _ h_ => h_.1)) (fun _ h_ => h_.1))) hb); have n8_ := am_ (blk_below (g := gb402) (o := .cells #[.slice A0_0 l0_0.length c0_0, .slice A0_1 l0_1.length c0_1] 34 (0, 0)) (by refine kD ?_; refine blk_far ?_ NB402_433.out _; refine kD ?_; refine blk_far ?_ NB402_433.out _; refine kD ?_; refine blk_far ?_ NB402_432.out _; refine kD ?_; refine blk_far ?_ NB402_432.out _; refine kD ?_; exact BK402.out) hb); have n9_ := am_ (blk_below (g := gb418) (o := .cells #[.slice Ao27 t406.length co27, .slice Ao31 t409.length co31] 34 (0, 0)) (by refine kD ?_; refine blk_far ?_ NB418_433.out _; refine kD ?_; refine blk_far ?_ NB418_433.out _; refine kD ?_; refine blk_far ?_ NB418_432.out _; refine kD ?_; refine blk_far ?_ NB418_432.out _; refine kD ?_; exact BK418.out) hb); have n10_ := am_ (blk_below (g := gb419) (o := .cells #[.slice Ao32 t412.length co32, .slice Ao35 t415.length co35] 34 (0, 0)) (by refine kD ?_; refine blk_far ?_ NB419_433.out _; refine kD ?_; refine blk_far ?_ NB419_433.out _; refine kD ?_; refine blk_far ?_ NB419_432.out _; refine kD ?_; refine blk_far ?_ NB419_432.out _; refine kD ?_; exact BK419.out) hb); have n11_ := am_ (blk_below (g := gb432) (o := .cells #[.slice Ao40 t420.length co40, .slice Ao46 t423.length co46] 34 (0, 0)) (by refine kD ?_; refine blk_far ?_ NB432_433.out _; refine kD ?_; refine blk_far ?_ NB432_433.out _; refine kD ?_; refine blk_put (cs := #[.slice Ao40 t420.length co40, .slice none 0 0]) ?_ 1 _ rfl; refine kD ?_; refine blk_put (cs := #[.slice none 0 0, .slice none 0 0]) ?_ 0 _ rfl; refine kD ?_; exact BK432.out) hb); have n12_ := am_ (blk_below (g := gb433) (o := .cells #[.slice Ao47 t426.length co47, .slice Ao52 t429.length co52] 34 (0, 0)) (by refine kD ?_; refine blk_put (cs := #[.slice Ao47 t426.length co47, .slice none 0 0]) ?_ 1 _ rfl; refine kD ?_; refine blk_put (cs := #[.slice none 0 0, .slice none 0 0]) ?_ 0 _ rfl; refine kD ?_; refine blk_far ?_ NB433_432.out _; refine kD ?_; refine blk_far ?_ NB433_432.out _; refine kD ?_; exact BK433.out) hb); have n13_ := am_ (below_step (kZ HB) hb); clear HO408; clear HO411; clear HO414; clear HO417; clear HO422; clear HO425; clear HO428; clear HO431; clear BK402; clear BK418; clear BK419; clear BK432; clear BK433; clear HB; have HO408 := n0_; have HO411 := n1_; have HO414 := n2_; have HO417 := n3_; have HO422 := n4_; have HO425 := n5_; have HO428 := n6_; have HO431 := n7_; have BK402 := n8_; have BK418 := n9_; have BK419 := n10_; have BK432 := n11_; have BK433 := n12_; have HB := n13_; clear n0_ n1_ n2_ n3_ n4_ n5_ n6_ n7_ n8_ n9_ n10_ n11_ n12_ n13_; (try clear hb); (try clear hb2); (try clear hk); (try clear hi)))
      repeat (go_quiet (fail); try go_wp2_with (fail))
      go_meet
      case rel => exact ⟨_, (true), e1_, H', ⟨by have := HJ4.out; first | omega | exact Nat.le_refl _⟩, ⟨by refine kE ?_; exact Kd.R_mono HO408.out (fun _ hk => ⟨hk.1.1, ⟨hk.1.2, hk.2⟩⟩)⟩, ⟨by refine kE ?_; exact Kd.R_mono HO411.out (fun _ hk => ⟨hk.1.1, ⟨hk.1.2, hk.2⟩⟩)⟩, ⟨by refine kE ?_; exact Kd.R_mono HO414.out (fun _ hk => ⟨hk.1.1, ⟨hk.1.2, hk.2⟩⟩)⟩, ⟨by refine kE ?_; exact Kd.R_mono HO417.out (fun _ hk => ⟨hk.1.1, ⟨hk.1.2, hk.2⟩⟩)⟩, ⟨by refine kE ?_; exact Kd.R_mono HO422.out (fun _ hk => ⟨hk.1.2, ⟨hk.2, hk.1.1⟩⟩)⟩, ⟨by refine kE ?_; exact Kd.R_mono HO425.out (fun _ hk => ⟨hk.1.2, ⟨hk.2, hk.1.1⟩⟩)⟩, ⟨by refine kE ?_; exact Kd.R_mono HO428.out (fun _ hk => ⟨hk.1.2, ⟨hk.2, hk.1.1⟩⟩)⟩, ⟨by refine kE ?_; exact Kd.R_mono HO431.out (fun _ hk => ⟨hk.1.2, ⟨hk.2, hk.1.1⟩⟩)⟩, ⟨kB BK402⟩, ⟨kB BK418⟩, ⟨kB BK419⟩, ⟨kB BK432⟩, ⟨kB BK433⟩, ⟨kZ HB⟩⟩
     subst c54
     have H1 : ((cantonref07_Same.f kj4 t412 t415 t426 t429).bind fun t435 => (cantonlaw11_OwnedCuts.j1 kj4 l1 t403 (!t435) l0_0 l0_1 t406 t409 t412 t415)) = some r := by rw [if_pos rfl] at H; exact H
     clear H
     have H := H1
     clear H1
     replace H := Option.bind_eq_some_iff.mp H
     obtain ⟨t435, A550, H⟩ := H
     replace H : (cantonlaw11_OwnedCuts.j1 kj4 l1 t403 (!t435) l0_0 l0_1 t406 t409 t412 t415) = some r := H
     have A55 := am_ A550
     clear A550
     have H' := am_ H
     clear H
     have hnb56 := NB418_402.out
     have hnc56 := NB402_418.out
     have hnb57 := NB418_419.out
     have hnc57 := NB419_418.out
     have hnb58 := NB418_432.out
     have hnc58 := NB432_418.out
     have hnb59 := NB418_433.out
     have hnc59 := NB433_418.out
     have hcz60_0 : w39.cell? ⟨gb418, 0, none⟩ = some (.slice Ao27 t406.length co27) := (blk_cell BK418.out 0).trans rfl
     have hcz60_1 : w39.cell? ⟨gb418, 1, none⟩ = some (.slice Ao31 t409.length co31) := (blk_cell BK418.out 1).trans rfl
     have hfz60_0 := blk_frozen BK418.out 0
     have hfz60_1 := blk_frozen BK418.out 1
     have hnb61 := NB432_402.out
     have hnc61 := NB402_432.out
     have hnb62 := NB432_419.out
     have hnc62 := NB419_432.out
     have hnb63 := NB432_433.out
     have hnc63 := NB433_432.out
     have hcz64_0 : w39.cell? ⟨gb432, 0, none⟩ = some (.slice none 0 0) := (blk_cell BK432.out 0).trans rfl
     have hcz64_1 : w39.cell? ⟨gb432, 1, none⟩ = some (.slice none 0 0) := (blk_cell BK432.out 1).trans rfl
     have hfz64_0 := blk_frozen BK432.out 0
     have hfz64_1 := blk_frozen BK432.out 1
     go_wp2_with (first | (go_at_call 27; (with_reducible refine (cantonref07_Same.calls kj4 _ _ t406 _ _ t409 _ _ t420 _ _ t423 true _ ?side1 ?side2 ?side3 ?side4 ?side5 ?side6 ?side7 ?side8 A53.out).mono ?_); (case side1 => refine (Kd.R_reads' (e := 40) (base := w.heap.size) (ok := fun k_ => ((some k_ ≠ (.slice Ao32 t412.length co32 : Value).ownBlock ∧ some k_ ≠ (.slice Ao40 t420.length co40 : Value).ownBlock) ∧ some k_ ≠ (.slice Ao47 t426.length co47 : Value).ownBlock)) (n := t406.length) (c := co27) ?_).2.2; exact (by refine kE ?_; exact (Kd.R_mono (Kd.R_mono (Kd.R_far (p := ⟨gb433, 1, none⟩) (Kd.R_far (p := ⟨gb433, 0, none⟩) (Kd.R_far (p := ⟨gb432, 1, none⟩) (Kd.R_far (p := ⟨gb432, 0, none⟩) (Kd.R_types (Kd.R_types HO408.out BK432.out (by decide)) BK433.out (by decide)) (fun _ hk => hk.1.2) (.slice Ao40 t420.length co40)) (fun _ hk => hk.1.2) (.slice Ao46 t423.length co46)) (fun _ hk => hk.2) (.slice Ao47 t426.length co47)) (fun _ hk => hk.2) (.slice Ao52 t429.length co52)) (fun _ h_ => h_.1)) (fun _ h_ => h_.1)))); (case side2 => exact (Kd.R_reads' HO408.out).2.1); (case side3 => refine (Kd.R_reads' (e := 59) (base := w.heap.size) (ok := fun k_ => ((some k_ ≠ (.slice Ao35 t415.length co35 : Value).ownBlock ∧ some k_ ≠ (.slice Ao46 t423.length co46 : Value).ownBlock) ∧ some k_ ≠ (.slice Ao52 t429.length co52 : Value).ownBlock)) (n := t409.length) (c := co31) ?_).2.2; exact (by refine kE ?_; exact (Kd.R_mono (Kd.R_mono (Kd.R_far (p := ⟨gb433, 1, none⟩) (Kd.R_far (p := ⟨gb433, 0, none⟩) (Kd.R_far (p := ⟨gb432, 1, none⟩) (Kd.R_far (p := ⟨gb432, 0, none⟩) (Kd.R_types (Kd.R_types HO411.out BK432.out (by decide)) BK433.out (by decide)) (fun _ hk => hk.1.2) (.slice Ao40 t420.length co40)) (fun _ hk => hk.1.2) (.slice Ao46 t423.length co46)) (fun _ hk => hk.2) (.slice Ao47 t426.length co47)) (fun _ hk => hk.2) (.slice Ao52 t429.length co52)) (fun _ h_ => h_.1)) (fun _ h_ => h_.1)))); (case side4 => exact (Kd.R_reads' HO411.out).2.1); (case side5 => refine (Kd.R_reads' (e := 40) (base := w.heap.size) (ok := fun k_ => ((some k_ ≠ (.slice Ao47 t426.length co47 : Value).ownBlock ∧ some k_ ≠ (.slice Ao27 t406.length co27 : Value).ownBlock) ∧ some k_ ≠ (.slice Ao32 t412.length co32 : Value).ownBlock)) (n := t420.length) (c := co40) ?_).2.2; exact (by refine kE ?_; exact (Kd.R_mono (Kd.R_mono (Kd.R_far (p := ⟨gb433, 1, none⟩) (Kd.R_far (p := ⟨gb433, 0, none⟩) (Kd.R_far (p := ⟨gb432, 1, none⟩) (Kd.R_far (p := ⟨gb432, 0, none⟩) (Kd.R_types (Kd.R_types HO422.out BK432.out (by decide)) BK433.out (by decide)) (fun _ hk => hk.1.2) (.slice Ao40 t420.length co40)) (fun _ hk => hk.1.2) (.slice Ao46 t423.length co46)) (fun _ hk => hk.2) (.slice Ao47 t426.length co47)) (fun _ hk => hk.2) (.slice Ao52 t429.length co52)) (fun _ h_ => h_.1)) (fun _ h_ => h_.1)))); (case side6 => exact (Kd.R_reads' HO422.out).2.1); (case side7 => refine (Kd.R_reads' (e := 59) (base := w.heap.size) (ok := fun k_ => ((some k_ ≠ (.slice Ao52 t429.length co52 : Value).ownBlock ∧ some k_ ≠ (.slice Ao31 t409.length co31 : Value).ownBlock) ∧ some k_ ≠ (.slice Ao35 t415.length co35 : Value).ownBlock)) (n := t423.length) (c := co46) ?_).2.2; exact (by refine kE ?_; exact (Kd.R_mono (Kd.R_mono (Kd.R_far (p := ⟨gb433, 1, none⟩) (Kd.R_far (p := ⟨gb433, 0, none⟩) (Kd.R_far (p := ⟨gb432, 1, none⟩) (Kd.R_far (p := ⟨gb432, 0, none⟩) (Kd.R_types (Kd.R_types HO425.out BK432.out (by decide)) BK433.out (by decide)) (fun _ hk => hk.1.2) (.slice Ao40 t420.length co40)) (fun _ hk => hk.1.2) (.slice Ao46 t423.length co46)) (fun _ hk => hk.2) (.slice Ao47 t426.length co47)) (fun _ hk => hk.2) (.slice Ao52 t429.length co52)) (fun _ h_ => h_.1)) (fun _ h_ => h_.1)))); (case side8 => exact (Kd.R_reads' HO425.out).2.1); rintro e w65 ⟨rfl, hb⟩; have n0_ := am_ (Kd.R_below (by refine kE ?_; exact (Kd.R_mono (Kd.R_mono (Kd.R_far (p := ⟨gb433, 1, none⟩) (Kd.R_far (p := ⟨gb433, 0, none⟩) (Kd.R_far (p := ⟨gb432, 1, none⟩) (Kd.R_far (p := ⟨gb432, 0, none⟩) (Kd.R_types (Kd.R_types HO408.out BK432.out (by decide)) BK433.out (by decide)) (fun _ hk => hk.1.2) (.slice Ao40 t420.length co40)) (fun _ hk => hk.1.2) (.slice Ao46 t423.length co46)) (fun _ hk => hk.2) (.slice Ao47 t426.length co47)) (fun _ hk => hk.2) (.slice Ao52 t429.length co52)) (fun _ h_ => h_.1)) (fun _ h_ => h_.1))) hb); have n1_ := am_ (Kd.R_below (by refine kE ?_; exact (Kd.R_mono (Kd.R_mono (Kd.R_far (p := ⟨gb433, 1, none⟩) (Kd.R_far (p := ⟨gb433, 0, none⟩) (Kd.R_far (p := ⟨gb432, 1, none⟩) (Kd.R_far (p := ⟨gb432, 0, none⟩) (Kd.R_types (Kd.R_types HO411.out BK432.out (by decide)) BK433.out (by decide)) (fun _ hk => hk.1.2) (.slice Ao40 t420.length co40)) (fun _ hk => hk.1.2) (.slice Ao46 t423.length co46)) (fun _ hk => hk.2) (.slice Ao47 t426.length co47)) (fun _ hk => hk.2) (.slice Ao52 t429.length co52)) (fun _ h_ => h_.1)) (fun _ h_ => h_.1))) hb); have n2_ := am_ (Kd.R_below (by refine kE ?_; exact (Kd.R_mono (Kd.R_mono (Kd.R_far (p := ⟨gb433, 1, none⟩) (Kd.R_far (p := ⟨gb433, 0, none⟩) (Kd.R_far (p := ⟨gb432, 1, none⟩) (Kd.R_far (p := ⟨gb432, 0, none⟩) (Kd.R_types (Kd.R_types HO414.out BK432.out (by decide)) BK433.out (by decide)) (fun _ hk => hk.1.2) (.slice Ao40 t420.length co40)) (fun _ hk => hk.1.2) (.slice Ao46 t423.length co46)) (fun _ hk => hk.2) (.slice Ao47 t426.length co47)) (fun _ hk => hk.2) (.slice Ao52 t429.length co52)) (fun _ h_ => h_.1)) (fun _ h_ => h_.1))) hb); have n3_ := am_ (Kd.R_below (by refine kE ?_; exact (Kd.R_mono (Kd.R_mono (Kd.R_far (p := ⟨gb433, 1, none⟩) (Kd.R_far (p := ⟨gb433, 0, none⟩) (Kd.R_far (p := ⟨gb432, 1, none⟩) (Kd.R_far (p := ⟨gb432, 0, none⟩) (Kd.R_types (Kd.R_types HO417.out BK432.out (by decide)) BK433.out (by decide)) (fun _ hk => hk.1.2) (.slice Ao40 t420.length co40)) (fun _ hk => hk.1.2) (.slice Ao46 t423.length co46)) (fun _ hk => hk.2) (.slice Ao47 t426.length co47)) (fun _ hk => hk.2) (.slice Ao52 t429.length co52)) (fun _ h_ => h_.1)) (fun _ h_ => h_.1))) hb); have n4_ := am_ (Kd.R_below (by refine kE ?_; exact (Kd.R_mono (Kd.R_mono (Kd.R_far (p := ⟨gb433, 1, none⟩) (Kd.R_far (p := ⟨gb433, 0, none⟩) (Kd.R_far (p := ⟨gb432, 1, none⟩) (Kd.R_far (p := ⟨gb432, 0, none⟩) (Kd.R_types (Kd.R_types HO422.out BK432.out (by decide)) BK433.out (by decide)) (fun _ hk => hk.1.2) (.slice Ao40 t420.length co40)) (fun _ hk => hk.1.2) (.slice Ao46 t423.length co46)) (fun _ hk => hk.2) (.slice Ao47 t426.length co47)) (fun _ hk => hk.2) (.slice Ao52 t429.length co52)) (fun _ h_ => h_.1)) (fun _ h_ => h_.1))) hb); have n5_ := am_ (Kd.R_below (by refine kE ?_; exact (Kd.R_mono (Kd.R_mono (Kd.R_far (p := ⟨gb433, 1, none⟩) (Kd.R_far (p := ⟨gb433, 0, none⟩) (Kd.R_far (p := ⟨gb432, 1, none⟩) (Kd.R_far (p := ⟨gb432, 0, none⟩) (Kd.R_types (Kd.R_types HO425.out BK432.out (by decide)) BK433.out (by decide)) (fun _ hk => hk.1.2) (.slice Ao40 t420.length co40)) (fun _ hk => hk.1.2) (.slice Ao46 t423.length co46)) (fun _ hk => hk.2) (.slice Ao47 t426.length co47)) (fun _ hk => hk.2) (.slice Ao52 t429.length co52)) (fun _ h_ => h_.1)) (fun _ h_ => h_.1))) hb); have n6_ := am_ (Kd.R_below (by refine kE ?_; exact (Kd.R_mono (Kd.R_mono (Kd.R_far (p := ⟨gb433, 1, none⟩) (Kd.R_far (p := ⟨gb433, 0, none⟩) (Kd.R_far (p := ⟨gb432, 1, none⟩) (Kd.R_far (p := ⟨gb432, 0, none⟩) (Kd.R_types (Kd.R_types HO428.out BK432.out (by decide)) BK433.out (by decide)) (fun _ hk => hk.1.2) (.slice Ao40 t420.length co40)) (fun _ hk => hk.1.2) (.slice Ao46 t423.length co46)) (fun _ hk => hk.2) (.slice Ao47 t426.length co47)) (fun _ hk => hk.2) (.slice Ao52 t429.length co52)) (fun _ h_ => h_.1)) (fun _ h_ => h_.1))) hb); have n7_ := am_ (Kd.R_below (by refine kE ?_; exact (Kd.R_mono (Kd.R_mono (Kd.R_far (p := ⟨gb433, 1, none⟩) (Kd.R_far (p := ⟨gb433, 0, none⟩) (Kd.R_far (p := ⟨gb432, 1, none⟩) (Kd.R_far (p := ⟨gb432, 0, none⟩) (Kd.R_types (Kd.R_types HO431.out BK432.out (by decide)) BK433.out (by decide)) (fun _ hk => hk.1.2) (.slice Ao40 t420.length co40)) (fun _ hk => hk.1.2) (.slice Ao46 t423.length co46)) (fun _ hk => hk.2) (.slice Ao47 t426.length co47)) (fun _ hk => hk.2) (.slice Ao52 t429.length co52)) (fun _ h_ => h_.1)) (fun _ h_ => h_.1))) hb); have n8_ := am_ (blk_below (g := gb402) (o := .cells #[.slice A0_0 l0_0.length c0_0, .slice A0_1 l0_1.length c0_1] 34 (0, 0)) (by refine kD ?_; refine blk_far ?_ NB402_433.out _; refine kD ?_; refine blk_far ?_ NB402_433.out _; refine kD ?_; refine blk_far ?_ NB402_432.out _; refine kD ?_; refine blk_far ?_ NB402_432.out _; refine kD ?_; exact BK402.out) hb); have n9_ := am_ (blk_below (g := gb418) (o := .cells #[.slice Ao27 t406.length co27, .slice Ao31 t409.length co31] 34 (0, 0)) (by refine kD ?_; refine blk_far ?_ NB418_433.out _; refine kD ?_; refine blk_far ?_ NB418_433.out _; refine kD ?_; refine blk_far ?_ NB418_432.out _; refine kD ?_; refine blk_far ?_ NB418_432.out _; refine kD ?_; exact BK418.out) hb); have n10_ := am_ (blk_below (g := gb419) (o := .cells #[.slice Ao32 t412.length co32, .slice Ao35 t415.length co35] 34 (0, 0)) (by refine kD ?_; refine blk_far ?_ NB419_433.out _; refine kD ?_; refine blk_far ?_ NB419_433.out _; refine kD ?_; refine blk_far ?_ NB419_432.out _; refine kD ?_; refine blk_far ?_ NB419_432.out _; refine kD ?_; exact BK419.out) hb); have n11_ := am_ (blk_below (g := gb432) (o := .cells #[.slice Ao40 t420.length co40, .slice Ao46 t423.length co46] 34 (0, 0)) (by refine kD ?_; refine blk_far ?_ NB432_433.out _; refine kD ?_; refine blk_far ?_ NB432_433.out _; refine kD ?_; refine blk_put (cs := #[.slice Ao40 t420.length co40, .slice none 0 0]) ?_ 1 _ rfl; refine kD ?_; refine blk_put (cs := #[.slice none 0 0, .slice none 0 0]) ?_ 0 _ rfl; refine kD ?_; exact BK432.out) hb); have n12_ := am_ (blk_below (g := gb433) (o := .cells #[.slice Ao47 t426.length co47, .slice Ao52 t429.length co52] 34 (0, 0)) (by refine kD ?_; refine blk_put (cs := #[.slice Ao47 t426.length co47, .slice none 0 0]) ?_ 1 _ rfl; refine kD ?_; refine blk_put (cs := #[.slice none 0 0, .slice none 0 0]) ?_ 0 _ rfl; refine kD ?_; refine blk_far ?_ NB433_432.out _; refine kD ?_; refine blk_far ?_ NB433_432.out _; refine kD ?_; exact BK433.out) hb); have n13_ := am_ (below_step (kZ HB) hb); clear HO408; clear HO411; clear HO414; clear HO417; clear HO422; clear HO425; clear HO428; clear HO431; clear BK402; clear BK418; clear BK419; clear BK432; clear BK433; clear HB; have HO408 := n0_; have HO411 := n1_; have HO414 := n2_; have HO417 := n3_; have HO422 := n4_; have HO425 := n5_; have HO428 := n6_; have HO431 := n7_; have BK402 := n8_; have BK418 := n9_; have BK419 := n10_; have BK432 := n11_; have BK433 := n12_; have HB := n13_; clear n0_ n1_ n2_ n3_ n4_ n5_ n6_ n7_ n8_ n9_ n10_ n11_ n12_ n13_; (try clear hb); (try clear hb2); (try clear hk); (try clear hi); have hnb66 := NB419_402.out; have hnc66 := NB402_419.out; have hnb67 := NB419_433.out; have hnc67 := NB433_419.out; have hcz68_0 : w65.cell? ⟨gb419, 0, none⟩ = some (.slice Ao32 t412.length co32) := (blk_cell BK419.out 0).trans rfl; have hcz68_1 : w65.cell? ⟨gb419, 1, none⟩ = some (.slice Ao35 t415.length co35) := (blk_cell BK419.out 1).trans rfl; have hfz68_0 := blk_frozen BK419.out 0; have hfz68_1 := blk_frozen BK419.out 1; have hnb69 := NB433_402.out; have hnc69 := NB402_433.out; have hcz70_0 : w65.cell? ⟨gb433, 0, none⟩ = some (.slice Ao47 t426.length co47) := (blk_cell BK433.out 0).trans rfl; have hcz70_1 : w65.cell? ⟨gb433, 1, none⟩ = some (.slice Ao52 t429.length co52) := (blk_cell BK433.out 1).trans rfl; have hfz70_0 := blk_frozen BK433.out 0; have hfz70_1 := blk_frozen BK433.out 1) | (go_at_call 27; (with_reducible refine (cantonref07_Same.calls kj4 _ _ t412 _ _ t415 _ _ t426 _ _ t429 t435 _ ?side1 ?side2 ?side3 ?side4 ?side5 ?side6 ?side7 ?side8 A55.out).mono ?_); (case side1 => exact kC ((Kd.R_reads' HO414.out).2.2)); (case side2 => exact (Kd.R_reads' HO414.out).2.1); (case side3 => exact kC ((Kd.R_reads' HO417.out).2.2)); (case side4 => exact (Kd.R_reads' HO417.out).2.1); (case side5 => exact kC ((Kd.R_reads' HO428.out).2.2)); (case side6 => exact (Kd.R_reads' HO428.out).2.1); (case side7 => exact kC ((Kd.R_reads' HO431.out).2.2)); (case side8 => exact (Kd.R_reads' HO431.out).2.1); rintro e w71 ⟨rfl, hb⟩; have n0_ := am_ (Kd.R_below (kR HO408) hb); have n1_ := am_ (Kd.R_below (kR HO411) hb); have n2_ := am_ (Kd.R_below (kR HO414) hb); have n3_ := am_ (Kd.R_below (kR HO417) hb); have n4_ := am_ (Kd.R_below (kR HO422) hb); have n5_ := am_ (Kd.R_below (kR HO425) hb); have n6_ := am_ (Kd.R_below (kR HO428) hb); have n7_ := am_ (Kd.R_below (kR HO431) hb); have n8_ := am_ (blk_below (kB BK402) hb); have n9_ := am_ (blk_below (kB BK418) hb); have n10_ := am_ (blk_below (kB BK419) hb); have n11_ := am_ (blk_below (kB BK432) hb); have n12_ := am_ (blk_below (kB BK433) hb); have n13_ := am_ (below_step (kZ HB) hb); clear HO408; clear HO411; clear HO414; clear HO417; clear HO422; clear HO425; clear HO428; clear HO431; clear BK402; clear BK418; clear BK419; clear BK432; clear BK433; clear HB; have HO408 := n0_; have HO411 := n1_; have HO414 := n2_; have HO417 := n3_; have HO422 := n4_; have HO425 := n5_; have HO428 := n6_; have HO431 := n7_; have BK402 := n8_; have BK418 := n9_; have BK419 := n10_; have BK432 := n11_; have BK433 := n12_; have HB := n13_; clear n0_ n1_ n2_ n3_ n4_ n5_ n6_ n7_ n8_ n9_ n10_ n11_ n12_ n13_; (try clear hb); (try clear hb2); (try clear hk); (try clear hi)))
     repeat (go_quiet (fail); try go_wp2_with (fail))
     go_meet
     case rel => exact ⟨_, (!t435), e1_, H', ⟨by have := HJ4.out; first | omega | exact Nat.le_refl _⟩, ⟨by refine kE ?_; exact Kd.R_mono HO408.out (fun _ hk => ⟨hk.1.1, ⟨hk.1.2, hk.2⟩⟩)⟩, ⟨by refine kE ?_; exact Kd.R_mono HO411.out (fun _ hk => ⟨hk.1.1, ⟨hk.1.2, hk.2⟩⟩)⟩, ⟨by refine kE ?_; exact Kd.R_mono HO414.out (fun _ hk => ⟨hk.1.1, ⟨hk.1.2, hk.2⟩⟩)⟩, ⟨by refine kE ?_; exact Kd.R_mono HO417.out (fun _ hk => ⟨hk.1.1, ⟨hk.1.2, hk.2⟩⟩)⟩, ⟨by refine kE ?_; exact Kd.R_mono HO422.out (fun _ hk => ⟨hk.1.2, ⟨hk.2, hk.1.1⟩⟩)⟩, ⟨by refine kE ?_; exact Kd.R_mono HO425.out (fun _ hk => ⟨hk.1.2, ⟨hk.2, hk.1.1⟩⟩)⟩, ⟨by refine kE ?_; exact Kd.R_mono HO428.out (fun _ hk => ⟨hk.1.2, ⟨hk.2, hk.1.1⟩⟩)⟩, ⟨by refine kE ?_; exact Kd.R_mono HO431.out (fun _ hk => ⟨hk.1.2, ⟨hk.2, hk.1.1⟩⟩)⟩, ⟨kB BK402⟩, ⟨kB BK418⟩, ⟨kB BK419⟩, ⟨kB BK432⟩, ⟨kB BK433⟩, ⟨kZ HB⟩⟩
    case rest =>
     clear HC22
     try clear p2
     try clear p2
     obtain ⟨kq, x51_21, rfl, HA, HJ21, HO_419000, HO_419001, HO_420000, HO_420001, HO_433000, HO_433001, HO_434000, HO_434001, BK402, BK418, BK419, BK432, BK433, HB⟩ := hcut
     cases kq with
     | zero => exact absurd HA.out (by simp [cantonlaw11_OwnedCuts.j1])
     | succ kj21 =>
      have H := HA.out
      clear HA
      simp only [cantonlaw11_OwnedCuts.j1] at H
      by_cases c82 : x51_21 = true
      ·subst c82
       have H1 : (some false) = some r := by rw [if_pos rfl] at H; exact H
       clear H
       have H := H1
       clear H1
       obtain rfl := Option.some.inj H
       go_wp2
       repeat (go_quiet (fail); try go_wp2)
       go_ret
       exact ⟨e2_, kZ HB⟩
      ·replace c82 := Bool.eq_false_iff.mpr c82
       subst c82
       have H1 : ((cantonref07_Right.f kj21 l0_0 l0_1).bind fun t436 => (if t436 = true then ((cantonref11_Right.f kj21 l1).bind fun t437 => (cantonlaw11_OwnedCuts.j2 kj21 t403 (!t437) l0_0 l0_1 t406 t409 t412 t415)) else (cantonlaw11_OwnedCuts.j2 kj21 t403 true l0_0 l0_1 t406 t409 t412 t415))) = some r := by rw [if_neg (show ¬ (false = true) by decide)] at H; exact H
       clear H
       have H := H1
       clear H1
       have HC83 := am_ H
       clear H
       go_upto_region 8 with (fail)
       repeat (go_quiet (fail); go_upto_region 8 with (fail))
       go_cut [59] (fun v59 wc => ∃ (kq : Nat) (x59_82 : Bool), v59 = .bool x59_82 ∧ Aside0 (cantonlaw11_OwnedCuts.j2 kq t403 x59_82 l0_0 l0_1 t406 t409 t412 t415 = some r) ∧ Aside0 (kq ≤ kj21) ∧ Aside0 (Kd.R k40 40 wc w.heap.size (fun k_ => some k_ ≠ ((.slice Ao32 t412.length co32) : Value).ownBlock ∧ some k_ ≠ ((.slice Ao40 t420.length co40) : Value).ownBlock ∧ some k_ ≠ ((.slice Ao47 t426.length co47) : Value).ownBlock) (.slice Ao27 t406.length co27) t406) ∧ Aside0 (Kd.R k59 59 wc w.heap.size (fun k_ => some k_ ≠ ((.slice Ao35 t415.length co35) : Value).ownBlock ∧ some k_ ≠ ((.slice Ao46 t423.length co46) : Value).ownBlock ∧ some k_ ≠ ((.slice Ao52 t429.length co52) : Value).ownBlock) (.slice Ao31 t409.length co31) t409) ∧ Aside0 (Kd.R k40 40 wc w.heap.size (fun k_ => some k_ ≠ ((.slice Ao27 t406.length co27) : Value).ownBlock ∧ some k_ ≠ ((.slice Ao40 t420.length co40) : Value).ownBlock ∧ some k_ ≠ ((.slice Ao47 t426.length co47) : Value).ownBlock) (.slice Ao32 t412.length co32) t412) ∧ Aside0 (Kd.R k59 59 wc w.heap.size (fun k_ => some k_ ≠ ((.slice Ao31 t409.length co31) : Value).ownBlock ∧ some k_ ≠ ((.slice Ao46 t423.length co46) : Value).ownBlock ∧ some k_ ≠ ((.slice Ao52 t429.length co52) : Value).ownBlock) (.slice Ao35 t415.length co35) t415) ∧ Aside0 (Kd.R k40 40 wc w.heap.size (fun k_ => some k_ ≠ ((.slice Ao27 t406.length co27) : Value).ownBlock ∧ some k_ ≠ ((.slice Ao32 t412.length co32) : Value).ownBlock ∧ some k_ ≠ ((.slice Ao47 t426.length co47) : Value).ownBlock) (.slice Ao40 t420.length co40) t420) ∧ Aside0 (Kd.R k59 59 wc w.heap.size (fun k_ => some k_ ≠ ((.slice Ao31 t409.length co31) : Value).ownBlock ∧ some k_ ≠ ((.slice Ao35 t415.length co35) : Value).ownBlock ∧ some k_ ≠ ((.slice Ao52 t429.length co52) : Value).ownBlock) (.slice Ao46 t423.length co46) t423) ∧ Aside0 (Kd.R k40 40 wc w.heap.size (fun k_ => some k_ ≠ ((.slice Ao27 t406.length co27) : Value).ownBlock ∧ some k_ ≠ ((.slice Ao32 t412.length co32) : Value).ownBlock ∧ some k_ ≠ ((.slice Ao40 t420.length co40) : Value).ownBlock) (.slice Ao47 t426.length co47) t426) ∧ Aside0 (Kd.R k59 59 wc w.heap.size (fun k_ => some k_ ≠ ((.slice Ao31 t409.length co31) : Value).ownBlock ∧ some k_ ≠ ((.slice Ao35 t415.length co35) : Value).ownBlock ∧ some k_ ≠ ((.slice Ao46 t423.length co46) : Value).ownBlock) (.slice Ao52 t429.length co52) t429) ∧ Aside0 (wc.heap[gb402]? = some (.cells #[(.slice A0_0 l0_0.length c0_0), (.slice A0_1 l0_1.length c0_1)] 34 (0, 0))) ∧ Aside0 (wc.heap[gb418]? = some (.cells #[(.slice Ao27 t406.length co27), (.slice Ao31 t409.length co31)] 34 (0, 0))) ∧ Aside0 (wc.heap[gb419]? = some (.cells #[(.slice Ao32 t412.length co32), (.slice Ao35 t415.length co35)] 34 (0, 0))) ∧ Aside0 (wc.heap[gb432]? = some (.cells #[(.slice Ao40 t420.length co40), (.slice Ao46 t423.length co46)] 34 (0, 0))) ∧ Aside0 (wc.heap[gb433]? = some (.cells #[(.slice Ao47 t426.length co47), (.slice Ao52 t429.length co52)] 34 (0, 0))) ∧ Aside0 (Below w.heap.size w wc))
       case first =>
        have H := HC83.out
        clear HC83
        replace H := Option.bind_eq_some_iff.mp H
        obtain ⟨t436, A840, H⟩ := H
        replace H : (if t436 = true then ((cantonref11_Right.f kj21 l1).bind fun t437 => (cantonlaw11_OwnedCuts.j2 kj21 t403 (!t437) l0_0 l0_1 t406 t409 t412 t415)) else (cantonlaw11_OwnedCuts.j2 kj21 t403 true l0_0 l0_1 t406 t409 t412 t415)) = some r := H
        have A84 := am_ A840
        clear A840
        by_cases c85 : t436 = true
        rotate_left
        ·replace c85 := Bool.eq_false_iff.mpr c85
         subst c85
         have H1 : (cantonlaw11_OwnedCuts.j2 kj21 t403 true l0_0 l0_1 t406 t409 t412 t415) = some r := by rw [if_neg (show ¬ (false = true) by decide)] at H; exact H
         clear H
         have H := H1
         clear H1
         have H' := am_ H
         clear H
         have hnb94 := NB402_418.out
         have hnc94 := NB418_402.out
         have hnb95 := NB402_419.out
         have hnc95 := NB419_402.out
         have hnb96 := NB402_432.out
         have hnc96 := NB432_402.out
         have hnb97 := NB402_433.out
         have hnc97 := NB433_402.out
         have hcz98_0 : wc.cell? ⟨gb402, 0, none⟩ = some (.slice A0_0 l0_0.length c0_0) := (blk_cell BK402.out 0).trans rfl
         have hcz98_1 : wc.cell? ⟨gb402, 1, none⟩ = some (.slice A0_1 l0_1.length c0_1) := (blk_cell BK402.out 1).trans rfl
         have hfz98_0 := blk_frozen BK402.out 0
         have hfz98_1 := blk_frozen BK402.out 1
         go_wp2_with (first | (go_at_call 28; (with_reducible refine (cantonref07_Right.calls kj21 _ _ l0_0 _ _ l0_1 false _ ?side1 ?side2 ?side3 ?side4 A84.out).mono ?_); (case side1 => exact kC ((Kd.C_below HR0_0.out HB.out))); (case side2 => exact HC0_0.out); (case side3 => exact kC ((Kd.C_below HR0_1.out HB.out))); (case side4 => exact HC0_1.out); rintro e w99 ⟨rfl, hb⟩; have n0_ := am_ (Kd.R_below (kR HO_419000) hb); have n1_ := am_ (Kd.R_below (kR HO_419001) hb); have n2_ := am_ (Kd.R_below (kR HO_420000) hb); have n3_ := am_ (Kd.R_below (kR HO_420001) hb); have n4_ := am_ (Kd.R_below (kR HO_433000) hb); have n5_ := am_ (Kd.R_below (kR HO_433001) hb); have n6_ := am_ (Kd.R_below (kR HO_434000) hb); have n7_ := am_ (Kd.R_below (kR HO_434001) hb); have n8_ := am_ (blk_below (kB BK402) hb); have n9_ := am_ (blk_below (kB BK418) hb); have n10_ := am_ (blk_below (kB BK419) hb); have n11_ := am_ (blk_below (kB BK432) hb); have n12_ := am_ (blk_below (kB BK433) hb); have n13_ := am_ (below_step (kZ HB) hb); clear HO_419000; clear HO_419001; clear HO_420000; clear HO_420001; clear HO_433000; clear HO_433001; clear HO_434000; clear HO_434001; clear BK402; clear BK418; clear BK419; clear BK432; clear BK433; clear HB; have HO_419000 := n0_; have HO_419001 := n1_; have HO_420000 := n2_; have HO_420001 := n3_; have HO_433000 := n4_; have HO_433001 := n5_; have HO_434000 := n6_; have HO_434001 := n7_; have BK402 := n8_; have BK418 := n9_; have BK419 := n10_; have BK432 := n11_; have BK433 := n12_; have HB := n13_; clear n0_ n1_ n2_ n3_ n4_ n5_ n6_ n7_ n8_ n9_ n10_ n11_ n12_ n13_; (try clear hb); (try clear hb2); (try clear hk); (try clear hi)))
         repeat (go_quiet (fail); try go_wp2_with (fail))
         go_meet
         case rel => exact ⟨_, (true), e1_, H', ⟨by have := HJ4.out; have := HJ21.out; first | omega | exact Nat.le_refl _⟩, ⟨kR HO_419000⟩, ⟨kR HO_419001⟩, ⟨kR HO_420000⟩, ⟨kR HO_420001⟩, ⟨kR HO_433000⟩, ⟨kR HO_433001⟩, ⟨kR HO_434000⟩, ⟨kR HO_434001⟩, ⟨kB BK402⟩, ⟨kB BK418⟩, ⟨kB BK419⟩, ⟨kB BK432⟩, ⟨kB BK433⟩, ⟨kZ HB⟩⟩
        subst c85
        have H1 : ((cantonref11_Right.f kj21 l1).bind fun t437 => (cantonlaw11_OwnedCuts.j2 kj21 t403 (!t437) l0_0 l0_1 t406 t409 t412 t415)) = some r := by rw [if_pos rfl] at H; exact H
        clear H
        have H := H1
        clear H1
        replace H := Option.bind_eq_some_iff.mp H
        obtain ⟨t437, A860, H⟩ := H
        replace H : (cantonlaw11_OwnedCuts.j2 kj21 t403 (!t437) l0_0 l0_1 t406 t409 t412 t415) = some r := H
        have A86 := am_ A860
        clear A860
        have H' := am_ H
        clear H
        have hnb87 := NB402_418.out
        have hnc87 := NB418_402.out
        have hnb88 := NB402_419.out
        have hnc88 := NB419_402.out
        have hnb89 := NB402_432.out
        have hnc89 := NB432_402.out
        have hnb90 := NB402_433.out
        have hnc90 := NB433_402.out
        have hcz91_0 : wc.cell? ⟨gb402, 0, none⟩ = some (.slice A0_0 l0_0.length c0_0) := (blk_cell BK402.out 0).trans rfl
        have hcz91_1 : wc.cell? ⟨gb402, 1, none⟩ = some (.slice A0_1 l0_1.length c0_1) := (blk_cell BK402.out 1).trans rfl
        have hfz91_0 := blk_frozen BK402.out 0
        have hfz91_1 := blk_frozen BK402.out 1
        go_wp2_with (first | (go_at_call 28; (with_reducible refine (cantonref07_Right.calls kj21 _ _ l0_0 _ _ l0_1 true _ ?side1 ?side2 ?side3 ?side4 A84.out).mono ?_); (case side1 => exact kC ((Kd.C_below HR0_0.out HB.out))); (case side2 => exact HC0_0.out); (case side3 => exact kC ((Kd.C_below HR0_1.out HB.out))); (case side4 => exact HC0_1.out); rintro e w92 ⟨rfl, hb⟩; have n0_ := am_ (Kd.R_below (kR HO_419000) hb); have n1_ := am_ (Kd.R_below (kR HO_419001) hb); have n2_ := am_ (Kd.R_below (kR HO_420000) hb); have n3_ := am_ (Kd.R_below (kR HO_420001) hb); have n4_ := am_ (Kd.R_below (kR HO_433000) hb); have n5_ := am_ (Kd.R_below (kR HO_433001) hb); have n6_ := am_ (Kd.R_below (kR HO_434000) hb); have n7_ := am_ (Kd.R_below (kR HO_434001) hb); have n8_ := am_ (blk_below (kB BK402) hb); have n9_ := am_ (blk_below (kB BK418) hb); have n10_ := am_ (blk_below (kB BK419) hb); have n11_ := am_ (blk_below (kB BK432) hb); have n12_ := am_ (blk_below (kB BK433) hb); have n13_ := am_ (below_step (kZ HB) hb); clear HO_419000; clear HO_419001; clear HO_420000; clear HO_420001; clear HO_433000; clear HO_433001; clear HO_434000; clear HO_434001; clear BK402; clear BK418; clear BK419; clear BK432; clear BK433; clear HB; have HO_419000 := n0_; have HO_419001 := n1_; have HO_420000 := n2_; have HO_420001 := n3_; have HO_433000 := n4_; have HO_433001 := n5_; have HO_434000 := n6_; have HO_434001 := n7_; have BK402 := n8_; have BK418 := n9_; have BK419 := n10_; have BK432 := n11_; have BK433 := n12_; have HB := n13_; clear n0_ n1_ n2_ n3_ n4_ n5_ n6_ n7_ n8_ n9_ n10_ n11_ n12_ n13_; (try clear hb); (try clear hb2); (try clear hk); (try clear hi)) | (go_at_call 18; (with_reducible refine (cantonref11_Right.calls kj21 _ _ l1 t437 _ ?side1 ?side2 A86.out).mono ?_); (case side1 => exact kC ((Kd.C_below HR1.out HB.out))); (case side2 => exact HC1.out); rintro e w93 ⟨rfl, hb⟩; have n0_ := am_ (Kd.R_below (kR HO_419000) hb); have n1_ := am_ (Kd.R_below (kR HO_419001) hb); have n2_ := am_ (Kd.R_below (kR HO_420000) hb); have n3_ := am_ (Kd.R_below (kR HO_420001) hb); have n4_ := am_ (Kd.R_below (kR HO_433000) hb); have n5_ := am_ (Kd.R_below (kR HO_433001) hb); have n6_ := am_ (Kd.R_below (kR HO_434000) hb); have n7_ := am_ (Kd.R_below (kR HO_434001) hb); have n8_ := am_ (blk_below (kB BK402) hb); have n9_ := am_ (blk_below (kB BK418) hb); have n10_ := am_ (blk_below (kB BK419) hb); have n11_ := am_ (blk_below (kB BK432) hb); have n12_ := am_ (blk_below (kB BK433) hb); have n13_ := am_ (below_step (kZ HB) hb); clear HO_419000; clear HO_419001; clear HO_420000; clear HO_420001; clear HO_433000; clear HO_433001; clear HO_434000; clear HO_434001; clear BK402; clear BK418; clear BK419; clear BK432; clear BK433; clear HB; have HO_419000 := n0_; have HO_419001 := n1_; have HO_420000 := n2_; have HO_420001 := n3_; have HO_433000 := n4_; have HO_433001 := n5_; have HO_434000 := n6_; have HO_434001 := n7_; have BK402 := n8_; have BK418 := n9_; have BK419 := n10_; have BK432 := n11_; have BK433 := n12_; have HB := n13_; clear n0_ n1_ n2_ n3_ n4_ n5_ n6_ n7_ n8_ n9_ n10_ n11_ n12_ n13_; (try clear hb); (try clear hb2); (try clear hk); (try clear hi)))
        repeat (go_quiet (fail); try go_wp2_with (fail))
        go_meet
        case rel => exact ⟨_, (!t437), e1_, H', ⟨by have := HJ4.out; have := HJ21.out; first | omega | exact Nat.le_refl _⟩, ⟨kR HO_419000⟩, ⟨kR HO_419001⟩, ⟨kR HO_420000⟩, ⟨kR HO_420001⟩, ⟨kR HO_433000⟩, ⟨kR HO_433001⟩, ⟨kR HO_434000⟩, ⟨kR HO_434001⟩, ⟨kB BK402⟩, ⟨kB BK418⟩, ⟨kB BK419⟩, ⟨kB BK432⟩, ⟨kB BK433⟩, ⟨kZ HB⟩⟩
       case rest =>
        clear HC83
        try clear p2
        try clear p2
        obtain ⟨kq, x59_82, rfl, HA, HJ82, HO_419000, HO_419001, HO_420000, HO_420001, HO_433000, HO_433001, HO_434000, HO_434001, BK402, BK418, BK419, BK432, BK433, HB⟩ := hcut
        cases kq with
        | zero => exact absurd HA.out (by simp [cantonlaw11_OwnedCuts.j2])
        | succ kj82 =>
         have H := HA.out
         clear HA
         simp only [cantonlaw11_OwnedCuts.j2] at H
         by_cases c100 : x59_82 = true
         rotate_left
         ·replace c100 := Bool.eq_false_iff.mpr c100
          subst c100
          have H1 : (cantonlaw11_OwnedCuts.l0 kj82 t403 0 0 0 l0_0 l0_1 t406 t409 t412 t415) = some r := by rw [if_neg (show ¬ (false = true) by decide)] at H; exact H
          clear H
          have H := H1
          clear H1
          have H' := am_ H
          clear H
          go_wp2
          repeat (go_quiet (fail); try go_wp2)
          go_loopg [12, 13, 14] kj82 (fun kq v12 v13 v14 w' => ∃ (x12_4 : Int) (x13_4 : Int) (x14_4 : Int), v12 = .int .i64 x12_4 ∧ v13 = .int .i64 x13_4 ∧ v14 = .int .i64 x14_4 ∧ Aside0 (cantonlaw11_OwnedCuts.l0 kq t403 x12_4 x13_4 x14_4 l0_0 l0_1 t406 t409 t412 t415 = some r) ∧ Aside0 (kq ≤ kj82) ∧ Aside0 (Kd.R k40 40 w' w.heap.size (fun k_ => some k_ ≠ ((.slice Ao32 t412.length co32) : Value).ownBlock ∧ some k_ ≠ ((.slice Ao40 t420.length co40) : Value).ownBlock ∧ some k_ ≠ ((.slice Ao47 t426.length co47) : Value).ownBlock) (.slice Ao27 t406.length co27) t406) ∧ Aside0 (Kd.R k59 59 w' w.heap.size (fun k_ => some k_ ≠ ((.slice Ao35 t415.length co35) : Value).ownBlock ∧ some k_ ≠ ((.slice Ao46 t423.length co46) : Value).ownBlock ∧ some k_ ≠ ((.slice Ao52 t429.length co52) : Value).ownBlock) (.slice Ao31 t409.length co31) t409) ∧ Aside0 (Kd.R k40 40 w' w.heap.size (fun k_ => some k_ ≠ ((.slice Ao27 t406.length co27) : Value).ownBlock ∧ some k_ ≠ ((.slice Ao40 t420.length co40) : Value).ownBlock ∧ some k_ ≠ ((.slice Ao47 t426.length co47) : Value).ownBlock) (.slice Ao32 t412.length co32) t412) ∧ Aside0 (Kd.R k59 59 w' w.heap.size (fun k_ => some k_ ≠ ((.slice Ao31 t409.length co31) : Value).ownBlock ∧ some k_ ≠ ((.slice Ao46 t423.length co46) : Value).ownBlock ∧ some k_ ≠ ((.slice Ao52 t429.length co52) : Value).ownBlock) (.slice Ao35 t415.length co35) t415) ∧ Aside0 (Kd.R k40 40 w' w.heap.size (fun k_ => some k_ ≠ ((.slice Ao27 t406.length co27) : Value).ownBlock ∧ some k_ ≠ ((.slice Ao32 t412.length co32) : Value).ownBlock ∧ some k_ ≠ ((.slice Ao47 t426.length co47) : Value).ownBlock) (.slice Ao40 t420.length co40) t420) ∧ Aside0 (Kd.R k59 59 w' w.heap.size (fun k_ => some k_ ≠ ((.slice Ao31 t409.length co31) : Value).ownBlock ∧ some k_ ≠ ((.slice Ao35 t415.length co35) : Value).ownBlock ∧ some k_ ≠ ((.slice Ao52 t429.length co52) : Value).ownBlock) (.slice Ao46 t423.length co46) t423) ∧ Aside0 (Kd.R k40 40 w' w.heap.size (fun k_ => some k_ ≠ ((.slice Ao27 t406.length co27) : Value).ownBlock ∧ some k_ ≠ ((.slice Ao32 t412.length co32) : Value).ownBlock ∧ some k_ ≠ ((.slice Ao40 t420.length co40) : Value).ownBlock) (.slice Ao47 t426.length co47) t426) ∧ Aside0 (Kd.R k59 59 w' w.heap.size (fun k_ => some k_ ≠ ((.slice Ao31 t409.length co31) : Value).ownBlock ∧ some k_ ≠ ((.slice Ao35 t415.length co35) : Value).ownBlock ∧ some k_ ≠ ((.slice Ao46 t423.length co46) : Value).ownBlock) (.slice Ao52 t429.length co52) t429) ∧ Aside0 (w'.heap[gb402]? = some (.cells #[(.slice A0_0 l0_0.length c0_0), (.slice A0_1 l0_1.length c0_1)] 34 (0, 0))) ∧ Aside0 (w'.heap[gb418]? = some (.cells #[(.slice Ao27 t406.length co27), (.slice Ao31 t409.length co31)] 34 (0, 0))) ∧ Aside0 (w'.heap[gb419]? = some (.cells #[(.slice Ao32 t412.length co32), (.slice Ao35 t415.length co35)] 34 (0, 0))) ∧ Aside0 (w'.heap[gb432]? = some (.cells #[(.slice Ao40 t420.length co40), (.slice Ao46 t423.length co46)] 34 (0, 0))) ∧ Aside0 (w'.heap[gb433]? = some (.cells #[(.slice Ao47 t426.length co47), (.slice Ao52 t429.length co52)] 34 (0, 0))) ∧ Aside0 (Below w.heap.size w w'))
          case atStart => exact ⟨(0), (0), (0), e1_, e1_, e1_, H', ⟨Nat.le_refl _⟩, ⟨kR HO_419000⟩, ⟨kR HO_419001⟩, ⟨kR HO_420000⟩, ⟨kR HO_420001⟩, ⟨kR HO_433000⟩, ⟨kR HO_433001⟩, ⟨kR HO_434000⟩, ⟨kR HO_434001⟩, ⟨kB BK402⟩, ⟨kB BK418⟩, ⟨kB BK419⟩, ⟨kB BK432⟩, ⟨kB BK433⟩, ⟨kZ HB⟩⟩
          case round =>
           clear H'
           try clear p2
           try clear p6
           try clear p64
           try clear p2
           obtain ⟨x12_4, x13_4, x14_4, rfl, rfl, rfl, HA, HK4, HO_419000, HO_419001, HO_420000, HO_420001, HO_433000, HO_433001, HO_434000, HO_434001, BK402, BK418, BK419, BK432, BK433, HB⟩ := hrel
           cases gk with
           | zero => exact absurd HA.out (by simp [cantonlaw11_OwnedCuts.l0])
           | succ k4 =>
            have H := HA.out
            clear HA
            simp only [cantonlaw11_OwnedCuts.l0] at H
            by_cases c111 : x14_4 < (l0_0.length : Int)
            rotate_left
            ·rw [if_neg c111] at H
             have c111b0 : decide (x14_4 < (l0_0.length : Int)) = false := decide_eq_false c111
             clear c111
             by_cases c164 : t403 = true
             rotate_left
             ·replace c164 := Bool.eq_false_iff.mpr c164
              subst c164
              have H1 : (some false) = some r := by rw [if_neg (show ¬ (false = true) by decide)] at H; exact H
              clear H
              have H := H1
              clear H1
              obtain rfl := Option.some.inj H
              have hnb232 := NB402_418.out
              have hnc232 := NB418_402.out
              have hnb233 := NB402_419.out
              have hnc233 := NB419_402.out
              have hnb234 := NB402_432.out
              have hnc234 := NB432_402.out
              have hnb235 := NB402_433.out
              have hnc235 := NB433_402.out
              have hcz236_0 : wr.cell? ⟨gb402, 0, none⟩ = some (.slice A0_0 l0_0.length c0_0) := (blk_cell BK402.out 0).trans rfl
              have hcz236_1 : wr.cell? ⟨gb402, 1, none⟩ = some (.slice A0_1 l0_1.length c0_1) := (blk_cell BK402.out 1).trans rfl
              have hfz236_0 := blk_frozen BK402.out 0
              have hfz236_1 := blk_frozen BK402.out 1
              go_wp2
              repeat (go_quiet (fail); try go_wp2)
              go_ret
              exact ⟨e2_, kZ HB⟩

             subst c164
             have H1 : (if x12_4 = (t406.length : Int) then (if x13_4 = (t412.length : Int) then (if (wrap64 ((t409.length : Int) + (t415.length : Int))) = (l0_1.length : Int) then ((cantonref07_Right.f k4 t406 t409).bind fun t438 => (if t438 = true then ((cantonref07_Right.f k4 t412 t415).bind fun t439 => (some t439)) else (some false))) else (some false)) else (some false)) else (some false)) = some r := by rw [if_pos rfl] at H; exact H
             clear H
             have H := H1
             clear H1
             by_cases c165 : x12_4 = (t406.length : Int)
             rotate_left
             ·rw [if_neg c165] at H
              have c165b0 : (x12_4 == (t406.length : Int)) = false := beq_eq_false_iff_ne.mpr c165
              have c165b1 : (x12_4 != (t406.length : Int)) = true := bne_iff_ne.mpr c165
              obtain rfl := Option.some.inj H
              have hnb223 := NB402_418.out
              have hnc223 := NB418_402.out
              have hnb224 := NB402_419.out
              have hnc224 := NB419_402.out
              have hnb225 := NB402_432.out
              have hnc225 := NB432_402.out
              have hnb226 := NB402_433.out
              have hnc226 := NB433_402.out
              have hcz227_0 : wr.cell? ⟨gb402, 0, none⟩ = some (.slice A0_0 l0_0.length c0_0) := (blk_cell BK402.out 0).trans rfl
              have hcz227_1 : wr.cell? ⟨gb402, 1, none⟩ = some (.slice A0_1 l0_1.length c0_1) := (blk_cell BK402.out 1).trans rfl
              have hfz227_0 := blk_frozen BK402.out 0
              have hfz227_1 := blk_frozen BK402.out 1
              have hnb228 := NB418_419.out
              have hnc228 := NB419_418.out
              have hnb229 := NB418_432.out
              have hnc229 := NB432_418.out
              have hnb230 := NB418_433.out
              have hnc230 := NB433_418.out
              have hcz231_0 : wr.cell? ⟨gb418, 0, none⟩ = some (.slice Ao27 t406.length co27) := (blk_cell BK418.out 0).trans rfl
              have hcz231_1 : wr.cell? ⟨gb418, 1, none⟩ = some (.slice Ao31 t409.length co31) := (blk_cell BK418.out 1).trans rfl
              have hfz231_0 := blk_frozen BK418.out 0
              have hfz231_1 := blk_frozen BK418.out 1
              go_wp2
              repeat (go_quiet (fail); try go_wp2)
              go_ret
              exact ⟨e2_, kZ HB⟩
             rw [if_pos c165] at H
             have c165b0 : (x12_4 == (t406.length : Int)) = true := beq_iff_eq.mpr c165
             have c165b1 : (x12_4 != (t406.length : Int)) = false := bne_eq_false_iff_eq.mpr c165
             clear c165
             by_cases c166 : x13_4 = (t412.length : Int)
             rotate_left
             ·rw [if_neg c166] at H
              have c166b0 : (x13_4 == (t412.length : Int)) = false := beq_eq_false_iff_ne.mpr c166
              have c166b1 : (x13_4 != (t412.length : Int)) = true := bne_iff_ne.mpr c166
              obtain rfl := Option.some.inj H
              have hnb211 := NB402_418.out
              have hnc211 := NB418_402.out
              have hnb212 := NB402_419.out
              have hnc212 := NB419_402.out
              have hnb213 := NB402_432.out
              have hnc213 := NB432_402.out
              have hnb214 := NB402_433.out
              have hnc214 := NB433_402.out
              have hcz215_0 : wr.cell? ⟨gb402, 0, none⟩ = some (.slice A0_0 l0_0.length c0_0) := (blk_cell BK402.out 0).trans rfl
              have hcz215_1 : wr.cell? ⟨gb402, 1, none⟩ = some (.slice A0_1 l0_1.length c0_1) := (blk_cell BK402.out 1).trans rfl
              have hfz215_0 := blk_frozen BK402.out 0
              have hfz215_1 := blk_frozen BK402.out 1
              have hnb216 := NB418_419.out
              have hnc216 := NB419_418.out
              have hnb217 := NB418_432.out
              have hnc217 := NB432_418.out
              have hnb218 := NB418_433.out
              have hnc218 := NB433_418.out
              have hcz219_0 : wr.cell? ⟨gb418, 0, none⟩ = some (.slice Ao27 t406.length co27) := (blk_cell BK418.out 0).trans rfl
              have hcz219_1 : wr.cell? ⟨gb418, 1, none⟩ = some (.slice Ao31 t409.length co31) := (blk_cell BK418.out 1).trans rfl
              have hfz219_0 := blk_frozen BK418.out 0
              have hfz219_1 := blk_frozen BK418.out 1
              have hnb220 := NB419_432.out
              have hnc220 := NB432_419.out
              have hnb221 := NB419_433.out
              have hnc221 := NB433_419.out
              have hcz222_0 : wr.cell? ⟨gb419, 0, none⟩ = some (.slice Ao32 t412.length co32) := (blk_cell BK419.out 0).trans rfl
              have hcz222_1 : wr.cell? ⟨gb419, 1, none⟩ = some (.slice Ao35 t415.length co35) := (blk_cell BK419.out 1).trans rfl
              have hfz222_0 := blk_frozen BK419.out 0
              have hfz222_1 := blk_frozen BK419.out 1
              go_wp2
              repeat (go_quiet (fail); try go_wp2)
              go_ret
              exact ⟨e2_, kZ HB⟩
             rw [if_pos c166] at H
             have c166b0 : (x13_4 == (t412.length : Int)) = true := beq_iff_eq.mpr c166
             have c166b1 : (x13_4 != (t412.length : Int)) = false := bne_eq_false_iff_eq.mpr c166
             clear c166
             by_cases c167 : (wrap64 ((t409.length : Int) + (t415.length : Int))) = (l0_1.length : Int)
             rotate_left
             ·rw [if_neg c167] at H
              have c167b0 : ((wrap64 ((t409.length : Int) + (t415.length : Int))) == (l0_1.length : Int)) = false := beq_eq_false_iff_ne.mpr c167
              have c167b1 : ((wrap64 ((t409.length : Int) + (t415.length : Int))) != (l0_1.length : Int)) = true := bne_iff_ne.mpr c167
              obtain rfl := Option.some.inj H
              have hnb199 := NB402_418.out
              have hnc199 := NB418_402.out
              have hnb200 := NB402_419.out
              have hnc200 := NB419_402.out
              have hnb201 := NB402_432.out
              have hnc201 := NB432_402.out
              have hnb202 := NB402_433.out
              have hnc202 := NB433_402.out
              have hcz203_0 : wr.cell? ⟨gb402, 0, none⟩ = some (.slice A0_0 l0_0.length c0_0) := (blk_cell BK402.out 0).trans rfl
              have hcz203_1 : wr.cell? ⟨gb402, 1, none⟩ = some (.slice A0_1 l0_1.length c0_1) := (blk_cell BK402.out 1).trans rfl
              have hfz203_0 := blk_frozen BK402.out 0
              have hfz203_1 := blk_frozen BK402.out 1
              have hnb204 := NB418_419.out
              have hnc204 := NB419_418.out
              have hnb205 := NB418_432.out
              have hnc205 := NB432_418.out
              have hnb206 := NB418_433.out
              have hnc206 := NB433_418.out
              have hcz207_0 : wr.cell? ⟨gb418, 0, none⟩ = some (.slice Ao27 t406.length co27) := (blk_cell BK418.out 0).trans rfl
              have hcz207_1 : wr.cell? ⟨gb418, 1, none⟩ = some (.slice Ao31 t409.length co31) := (blk_cell BK418.out 1).trans rfl
              have hfz207_0 := blk_frozen BK418.out 0
              have hfz207_1 := blk_frozen BK418.out 1
              have hnb208 := NB419_432.out
              have hnc208 := NB432_419.out
              have hnb209 := NB419_433.out
              have hnc209 := NB433_419.out
              have hcz210_0 : wr.cell? ⟨gb419, 0, none⟩ = some (.slice Ao32 t412.length co32) := (blk_cell BK419.out 0).trans rfl
              have hcz210_1 : wr.cell? ⟨gb419, 1, none⟩ = some (.slice Ao35 t415.length co35) := (blk_cell BK419.out 1).trans rfl
              have hfz210_0 := blk_frozen BK419.out 0
              have hfz210_1 := blk_frozen BK419.out 1
              go_wp2
              repeat (go_quiet (fail); try go_wp2)
              go_ret
              exact ⟨e2_, kZ HB⟩
             rw [if_pos c167] at H
             have c167b0 : ((wrap64 ((t409.length : Int) + (t415.length : Int))) == (l0_1.length : Int)) = true := beq_iff_eq.mpr c167
             have c167b1 : ((wrap64 ((t409.length : Int) + (t415.length : Int))) != (l0_1.length : Int)) = false := bne_eq_false_iff_eq.mpr c167
             clear c167
             replace H := Option.bind_eq_some_iff.mp H
             obtain ⟨t438, A1680, H⟩ := H
             replace H : (if t438 = true then ((cantonref07_Right.f k4 t412 t415).bind fun t439 => (some t439)) else (some false)) = some r := H
             have A168 := am_ A1680
             clear A1680
             by_cases c169 : t438 = true
             rotate_left
             ·replace c169 := Bool.eq_false_iff.mpr c169
              subst c169
              have H1 : (some false) = some r := by rw [if_neg (show ¬ (false = true) by decide)] at H; exact H
              clear H
              have H := H1
              clear H1
              obtain rfl := Option.some.inj H
              have hnb186 := NB402_418.out
              have hnc186 := NB418_402.out
              have hnb187 := NB402_419.out
              have hnc187 := NB419_402.out
              have hnb188 := NB402_432.out
              have hnc188 := NB432_402.out
              have hnb189 := NB402_433.out
              have hnc189 := NB433_402.out
              have hcz190_0 : wr.cell? ⟨gb402, 0, none⟩ = some (.slice A0_0 l0_0.length c0_0) := (blk_cell BK402.out 0).trans rfl
              have hcz190_1 : wr.cell? ⟨gb402, 1, none⟩ = some (.slice A0_1 l0_1.length c0_1) := (blk_cell BK402.out 1).trans rfl
              have hfz190_0 := blk_frozen BK402.out 0
              have hfz190_1 := blk_frozen BK402.out 1
              have hnb191 := NB418_419.out
              have hnc191 := NB419_418.out
              have hnb192 := NB418_432.out
              have hnc192 := NB432_418.out
              have hnb193 := NB418_433.out
              have hnc193 := NB433_418.out
              have hcz194_0 : wr.cell? ⟨gb418, 0, none⟩ = some (.slice Ao27 t406.length co27) := (blk_cell BK418.out 0).trans rfl
              have hcz194_1 : wr.cell? ⟨gb418, 1, none⟩ = some (.slice Ao31 t409.length co31) := (blk_cell BK418.out 1).trans rfl
              have hfz194_0 := blk_frozen BK418.out 0
              have hfz194_1 := blk_frozen BK418.out 1
              have hnb195 := NB419_432.out
              have hnc195 := NB432_419.out
              have hnb196 := NB419_433.out
              have hnc196 := NB433_419.out
              have hcz197_0 : wr.cell? ⟨gb419, 0, none⟩ = some (.slice Ao32 t412.length co32) := (blk_cell BK419.out 0).trans rfl
              have hcz197_1 : wr.cell? ⟨gb419, 1, none⟩ = some (.slice Ao35 t415.length co35) := (blk_cell BK419.out 1).trans rfl
              have hfz197_0 := blk_frozen BK419.out 0
              have hfz197_1 := blk_frozen BK419.out 1
              go_wp2_with (first | (go_at_call 28; (with_reducible refine (cantonref07_Right.calls k4 _ _ t406 _ _ t409 false _ ?side1 ?side2 ?side3 ?side4 A168.out).mono ?_); (case side1 => exact kC ((Kd.R_reads' HO_419000.out).2.2)); (case side2 => exact (Kd.R_reads' HO_419000.out).2.1); (case side3 => exact kC ((Kd.R_reads' HO_419001.out).2.2)); (case side4 => exact (Kd.R_reads' HO_419001.out).2.1); rintro e w198 ⟨rfl, hb⟩; have n0_ := am_ (Kd.R_below (kR HO_419000) hb); have n1_ := am_ (Kd.R_below (kR HO_419001) hb); have n2_ := am_ (Kd.R_below (kR HO_420000) hb); have n3_ := am_ (Kd.R_below (kR HO_420001) hb); have n4_ := am_ (Kd.R_below (kR HO_433000) hb); have n5_ := am_ (Kd.R_below (kR HO_433001) hb); have n6_ := am_ (Kd.R_below (kR HO_434000) hb); have n7_ := am_ (Kd.R_below (kR HO_434001) hb); have n8_ := am_ (blk_below (kB BK402) hb); have n9_ := am_ (blk_below (kB BK418) hb); have n10_ := am_ (blk_below (kB BK419) hb); have n11_ := am_ (blk_below (kB BK432) hb); have n12_ := am_ (blk_below (kB BK433) hb); have n13_ := am_ (below_step (kZ HB) hb); clear HO_419000; clear HO_419001; clear HO_420000; clear HO_420001; clear HO_433000; clear HO_433001; clear HO_434000; clear HO_434001; clear BK402; clear BK418; clear BK419; clear BK432; clear BK433; clear HB; have HO_419000 := n0_; have HO_419001 := n1_; have HO_420000 := n2_; have HO_420001 := n3_; have HO_433000 := n4_; have HO_433001 := n5_; have HO_434000 := n6_; have HO_434001 := n7_; have BK402 := n8_; have BK418 := n9_; have BK419 := n10_; have BK432 := n11_; have BK433 := n12_; have HB := n13_; clear n0_ n1_ n2_ n3_ n4_ n5_ n6_ n7_ n8_ n9_ n10_ n11_ n12_ n13_; (try clear hb); (try clear hb2); (try clear hk); (try clear hi)))
              repeat (go_quiet (fail); try go_wp2_with (fail))
              go_ret
              exact ⟨e2_, kZ HB⟩
             subst c169
             have H1 : ((cantonref07_Right.f k4 t412 t415).bind fun t439 => (some t439)) = some r := by rw [if_pos rfl] at H; exact H
             clear H
             have H := H1
             clear H1
             replace H := Option.bind_eq_some_iff.mp H
             obtain ⟨t439, A1700, H⟩ := H
             replace H : (some t439) = some r := H
             have A170 := am_ A1700
             clear A1700
             obtain rfl := Option.some.inj H
             have hnb171 := NB402_418.out
             have hnc171 := NB418_402.out
             have hnb172 := NB402_419.out
             have hnc172 := NB419_402.out
             have hnb173 := NB402_432.out
             have hnc173 := NB432_402.out
             have hnb174 := NB402_433.out
             have hnc174 := NB433_402.out
             have hcz175_0 : wr.cell? ⟨gb402, 0, none⟩ = some (.slice A0_0 l0_0.length c0_0) := (blk_cell BK402.out 0).trans rfl
             have hcz175_1 : wr.cell? ⟨gb402, 1, none⟩ = some (.slice A0_1 l0_1.length c0_1) := (blk_cell BK402.out 1).trans rfl
             have hfz175_0 := blk_frozen BK402.out 0
             have hfz175_1 := blk_frozen BK402.out 1
             have hnb176 := NB418_419.out
             have hnc176 := NB419_418.out
             have hnb177 := NB418_432.out
             have hnc177 := NB432_418.out
             have hnb178 := NB418_433.out
             have hnc178 := NB433_418.out
             have hcz179_0 : wr.cell? ⟨gb418, 0, none⟩ = some (.slice Ao27 t406.length co27) := (blk_cell BK418.out 0).trans rfl
             have hcz179_1 : wr.cell? ⟨gb418, 1, none⟩ = some (.slice Ao31 t409.length co31) := (blk_cell BK418.out 1).trans rfl
             have hfz179_0 := blk_frozen BK418.out 0
             have hfz179_1 := blk_frozen BK418.out 1
             have hnb180 := NB419_432.out
             have hnc180 := NB432_419.out
             have hnb181 := NB419_433.out
             have hnc181 := NB433_419.out
             have hcz182_0 : wr.cell? ⟨gb419, 0, none⟩ = some (.slice Ao32 t412.length co32) := (blk_cell BK419.out 0).trans rfl
             have hcz182_1 : wr.cell? ⟨gb419, 1, none⟩ = some (.slice Ao35 t415.length co35) := (blk_cell BK419.out 1).trans rfl
             have hfz182_0 := blk_frozen BK419.out 0
             have hfz182_1 := blk_frozen BK419.out 1
             go_wp2_with (first | (go_at_call 28; (with_reducible refine (cantonref07_Right.calls k4 _ _ t406 _ _ t409 true _ ?side1 ?side2 ?side3 ?side4 A168.out).mono ?_); (case side1 => exact kC ((Kd.R_reads' HO_419000.out).2.2)); (case side2 => exact (Kd.R_reads' HO_419000.out).2.1); (case side3 => exact kC ((Kd.R_reads' HO_419001.out).2.2)); (case side4 => exact (Kd.R_reads' HO_419001.out).2.1); rintro e w183 ⟨rfl, hb⟩; have n0_ := am_ (Kd.R_below (kR HO_419000) hb); have n1_ := am_ (Kd.R_below (kR HO_419001) hb); have n2_ := am_ (Kd.R_below (kR HO_420000) hb); have n3_ := am_ (Kd.R_below (kR HO_420001) hb); have n4_ := am_ (Kd.R_below (kR HO_433000) hb); have n5_ := am_ (Kd.R_below (kR HO_433001) hb); have n6_ := am_ (Kd.R_below (kR HO_434000) hb); have n7_ := am_ (Kd.R_below (kR HO_434001) hb); have n8_ := am_ (blk_below (kB BK402) hb); have n9_ := am_ (blk_below (kB BK418) hb); have n10_ := am_ (blk_below (kB BK419) hb); have n11_ := am_ (blk_below (kB BK432) hb); have n12_ := am_ (blk_below (kB BK433) hb); have n13_ := am_ (below_step (kZ HB) hb); clear HO_419000; clear HO_419001; clear HO_420000; clear HO_420001; clear HO_433000; clear HO_433001; clear HO_434000; clear HO_434001; clear BK402; clear BK418; clear BK419; clear BK432; clear BK433; clear HB; have HO_419000 := n0_; have HO_419001 := n1_; have HO_420000 := n2_; have HO_420001 := n3_; have HO_433000 := n4_; have HO_433001 := n5_; have HO_434000 := n6_; have HO_434001 := n7_; have BK402 := n8_; have BK418 := n9_; have BK419 := n10_; have BK432 := n11_; have BK433 := n12_; have HB := n13_; clear n0_ n1_ n2_ n3_ n4_ n5_ n6_ n7_ n8_ n9_ n10_ n11_ n12_ n13_; (try clear hb); (try clear hb2); (try clear hk); (try clear hi); have hcz184_0 : w183.cell? ⟨gb419, 0, none⟩ = some (.slice Ao32 t412.length co32) := (blk_cell BK419.out 0).trans rfl; have hcz184_1 : w183.cell? ⟨gb419, 1, none⟩ = some (.slice Ao35 t415.length co35) := (blk_cell BK419.out 1).trans rfl; have hfz184_0 := blk_frozen BK419.out 0; have hfz184_1 := blk_frozen BK419.out 1) | (go_at_call 28; (with_reducible refine (cantonref07_Right.calls k4 _ _ t412 _ _ t415 t439 _ ?side1 ?side2 ?side3 ?side4 A170.out).mono ?_); (case side1 => exact kC ((Kd.R_reads' HO_420000.out).2.2)); (case side2 => exact (Kd.R_reads' HO_420000.out).2.1); (case side3 => exact kC ((Kd.R_reads' HO_420001.out).2.2)); (case side4 => exact (Kd.R_reads' HO_420001.out).2.1); rintro e w185 ⟨rfl, hb⟩; have n0_ := am_ (Kd.R_below (kR HO_419000) hb); have n1_ := am_ (Kd.R_below (kR HO_419001) hb); have n2_ := am_ (Kd.R_below (kR HO_420000) hb); have n3_ := am_ (Kd.R_below (kR HO_420001) hb); have n4_ := am_ (Kd.R_below (kR HO_433000) hb); have n5_ := am_ (Kd.R_below (kR HO_433001) hb); have n6_ := am_ (Kd.R_below (kR HO_434000) hb); have n7_ := am_ (Kd.R_below (kR HO_434001) hb); have n8_ := am_ (blk_below (kB BK402) hb); have n9_ := am_ (blk_below (kB BK418) hb); have n10_ := am_ (blk_below (kB BK419) hb); have n11_ := am_ (blk_below (kB BK432) hb); have n12_ := am_ (blk_below (kB BK433) hb); have n13_ := am_ (below_step (kZ HB) hb); clear HO_419000; clear HO_419001; clear HO_420000; clear HO_420001; clear HO_433000; clear HO_433001; clear HO_434000; clear HO_434001; clear BK402; clear BK418; clear BK419; clear BK432; clear BK433; clear HB; have HO_419000 := n0_; have HO_419001 := n1_; have HO_420000 := n2_; have HO_420001 := n3_; have HO_433000 := n4_; have HO_433001 := n5_; have HO_434000 := n6_; have HO_434001 := n7_; have BK402 := n8_; have BK418 := n9_; have BK419 := n10_; have BK432 := n11_; have BK433 := n12_; have HB := n13_; clear n0_ n1_ n2_ n3_ n4_ n5_ n6_ n7_ n8_ n9_ n10_ n11_ n12_ n13_; (try clear hb); (try clear hb2); (try clear hk); (try clear hi)))
             repeat (go_quiet (fail); try go_wp2_with (fail))
             go_ret
             exact ⟨e2_, kZ HB⟩
            rw [if_pos c111] at H
            have c111b0 : decide (x14_4 < (l0_0.length : Int)) = true := decide_eq_true c111
            clear c111
            have HC112 := am_ H
            clear H
            have hnb113 := NB402_418.out
            have hnc113 := NB418_402.out
            have hnb114 := NB402_419.out
            have hnc114 := NB419_402.out
            have hnb115 := NB402_432.out
            have hnc115 := NB432_402.out
            have hnb116 := NB402_433.out
            have hnc116 := NB433_402.out
            have hcz117_0 : wr.cell? ⟨gb402, 0, none⟩ = some (.slice A0_0 l0_0.length c0_0) := (blk_cell BK402.out 0).trans rfl
            have hcz117_1 : wr.cell? ⟨gb402, 1, none⟩ = some (.slice A0_1 l0_1.length c0_1) := (blk_cell BK402.out 1).trans rfl
            have hfz117_0 := blk_frozen BK402.out 0
            have hfz117_1 := blk_frozen BK402.out 1
            go_upto_region 15 with (fail)
            repeat (go_quiet (fail); go_upto_region 15 with (fail))
            go_cut [103] (fun v103 wc => ∃ (kq : Nat) (x103_111 : Bool), v103 = .bool x103_111 ∧ Aside0 (cantonlaw11_OwnedCuts.j4 kq t403 x12_4 x13_4 x14_4 x103_111 l0_0 l0_1 t406 t409 t412 t415 = some r) ∧ Aside0 (kq ≤ k4) ∧ Aside0 (Kd.R k40 40 wc w.heap.size (fun k_ => some k_ ≠ ((.slice Ao32 t412.length co32) : Value).ownBlock ∧ some k_ ≠ ((.slice Ao40 t420.length co40) : Value).ownBlock ∧ some k_ ≠ ((.slice Ao47 t426.length co47) : Value).ownBlock) (.slice Ao27 t406.length co27) t406) ∧ Aside0 (Kd.R k59 59 wc w.heap.size (fun k_ => some k_ ≠ ((.slice Ao35 t415.length co35) : Value).ownBlock ∧ some k_ ≠ ((.slice Ao46 t423.length co46) : Value).ownBlock ∧ some k_ ≠ ((.slice Ao52 t429.length co52) : Value).ownBlock) (.slice Ao31 t409.length co31) t409) ∧ Aside0 (Kd.R k40 40 wc w.heap.size (fun k_ => some k_ ≠ ((.slice Ao27 t406.length co27) : Value).ownBlock ∧ some k_ ≠ ((.slice Ao40 t420.length co40) : Value).ownBlock ∧ some k_ ≠ ((.slice Ao47 t426.length co47) : Value).ownBlock) (.slice Ao32 t412.length co32) t412) ∧ Aside0 (Kd.R k59 59 wc w.heap.size (fun k_ => some k_ ≠ ((.slice Ao31 t409.length co31) : Value).ownBlock ∧ some k_ ≠ ((.slice Ao46 t423.length co46) : Value).ownBlock ∧ some k_ ≠ ((.slice Ao52 t429.length co52) : Value).ownBlock) (.slice Ao35 t415.length co35) t415) ∧ Aside0 (Kd.R k40 40 wc w.heap.size (fun k_ => some k_ ≠ ((.slice Ao27 t406.length co27) : Value).ownBlock ∧ some k_ ≠ ((.slice Ao32 t412.length co32) : Value).ownBlock ∧ some k_ ≠ ((.slice Ao47 t426.length co47) : Value).ownBlock) (.slice Ao40 t420.length co40) t420) ∧ Aside0 (Kd.R k59 59 wc w.heap.size (fun k_ => some k_ ≠ ((.slice Ao31 t409.length co31) : Value).ownBlock ∧ some k_ ≠ ((.slice Ao35 t415.length co35) : Value).ownBlock ∧ some k_ ≠ ((.slice Ao52 t429.length co52) : Value).ownBlock) (.slice Ao46 t423.length co46) t423) ∧ Aside0 (Kd.R k40 40 wc w.heap.size (fun k_ => some k_ ≠ ((.slice Ao27 t406.length co27) : Value).ownBlock ∧ some k_ ≠ ((.slice Ao32 t412.length co32) : Value).ownBlock ∧ some k_ ≠ ((.slice Ao40 t420.length co40) : Value).ownBlock) (.slice Ao47 t426.length co47) t426) ∧ Aside0 (Kd.R k59 59 wc w.heap.size (fun k_ => some k_ ≠ ((.slice Ao31 t409.length co31) : Value).ownBlock ∧ some k_ ≠ ((.slice Ao35 t415.length co35) : Value).ownBlock ∧ some k_ ≠ ((.slice Ao46 t423.length co46) : Value).ownBlock) (.slice Ao52 t429.length co52) t429) ∧ Aside0 (wc.heap[gb402]? = some (.cells #[(.slice A0_0 l0_0.length c0_0), (.slice A0_1 l0_1.length c0_1)] 34 (0, 0))) ∧ Aside0 (wc.heap[gb418]? = some (.cells #[(.slice Ao27 t406.length co27), (.slice Ao31 t409.length co31)] 34 (0, 0))) ∧ Aside0 (wc.heap[gb419]? = some (.cells #[(.slice Ao32 t412.length co32), (.slice Ao35 t415.length co35)] 34 (0, 0))) ∧ Aside0 (wc.heap[gb432]? = some (.cells #[(.slice Ao40 t420.length co40), (.slice Ao46 t423.length co46)] 34 (0, 0))) ∧ Aside0 (wc.heap[gb433]? = some (.cells #[(.slice Ao47 t426.length co47), (.slice Ao52 t429.length co52)] 34 (0, 0))) ∧ Aside0 (Below w.heap.size w wc))
            case first =>
             have H := HC112.out
             clear HC112
             by_cases c118 : x12_4 < (t406.length : Int)
             rotate_left
             ·rw [if_neg c118] at H
              have c118b0 : decide (x12_4 < (t406.length : Int)) = false := decide_eq_false c118
              clear c118
              (first | rw [c118b0] | (simp only [i64_w, i32_w]; rw [c118b0]) | skip)
              have H' := am_ H
              clear H
              have hnb130 := NB418_402.out
              have hnc130 := NB402_418.out
              have hnb131 := NB418_419.out
              have hnc131 := NB419_418.out
              have hnb132 := NB418_432.out
              have hnc132 := NB432_418.out
              have hnb133 := NB418_433.out
              have hnc133 := NB433_418.out
              have hcz134_0 : wr.cell? ⟨gb418, 0, none⟩ = some (.slice Ao27 t406.length co27) := (blk_cell BK418.out 0).trans rfl
              have hcz134_1 : wr.cell? ⟨gb418, 1, none⟩ = some (.slice Ao31 t409.length co31) := (blk_cell BK418.out 1).trans rfl
              have hfz134_0 := blk_frozen BK418.out 0
              have hfz134_1 := blk_frozen BK418.out 1
              go_wp2
              repeat (go_quiet (fail); try go_wp2)
              go_meet
              case rel => exact ⟨_, (false), e1_, H', ⟨by have := HJ4.out; have := HJ21.out; have := HJ82.out; have := HK4.out; first | omega | exact Nat.le_refl _⟩, ⟨kR HO_419000⟩, ⟨kR HO_419001⟩, ⟨kR HO_420000⟩, ⟨kR HO_420001⟩, ⟨kR HO_433000⟩, ⟨kR HO_433001⟩, ⟨kR HO_434000⟩, ⟨kR HO_434001⟩, ⟨kB BK402⟩, ⟨kB BK418⟩, ⟨kB BK419⟩, ⟨kB BK432⟩, ⟨kB BK433⟩, ⟨kZ HB⟩⟩
             rw [if_pos c118] at H
             have c118b0 : decide (x12_4 < (t406.length : Int)) = true := decide_eq_true c118
             clear c118
             (first | rw [c118b0] | (simp only [i64_w, i32_w]; rw [c118b0]) | skip)
             by_cases c119 : 0 ≤ x12_4
             rotate_left
             ·rw [if_neg c119] at H
              exact absurd H (by simp)
             rw [if_pos c119] at H
             have c119b0 : decide (0 ≤ x12_4) = true := decide_eq_true c119
             clear c119
             by_cases c120 : 0 ≤ x14_4
             rotate_left
             ·rw [if_neg c120] at H
              exact absurd H (by simp)
             rw [if_pos c120] at H
             have c120b0 : decide (0 ≤ x14_4) = true := decide_eq_true c120
             clear c120
             have H' := am_ H
             clear H
             have hnb121 := NB418_402.out
             have hnc121 := NB402_418.out
             have hnb122 := NB418_419.out
             have hnc122 := NB419_418.out
             have hnb123 := NB418_432.out
             have hnc123 := NB432_418.out
             have hnb124 := NB418_433.out
             have hnc124 := NB433_418.out
             have hcz125_0 : wr.cell? ⟨gb418, 0, none⟩ = some (.slice Ao27 t406.length co27) := (blk_cell BK418.out 0).trans rfl
             have hcz125_1 : wr.cell? ⟨gb418, 1, none⟩ = some (.slice Ao31 t409.length co31) := (blk_cell BK418.out 1).trans rfl
             have hfz125_0 := blk_frozen BK418.out 0
             have hfz125_1 := blk_frozen BK418.out 1
             have p440 : 0 ≤ (x12_4 : Int) := od_
             have q440 : x12_4 < (t406.length : Int) := od_
             obtain ⟨ad440, e440, hx440_0, hx440_1, hx440_2, hx440_3, hx440_4⟩ := at_T40 (Kd.R_reads' HO_419000.out).2.2 x12_4 p440 q440
             cases e440
             replace p440 := eq_true p440
             replace q440 := eq_true q440
             have hnb126 := NB402_419.out
             have hnc126 := NB419_402.out
             have hnb127 := NB402_432.out
             have hnc127 := NB432_402.out
             have hnb128 := NB402_433.out
             have hnc128 := NB433_402.out
             have hcz129_0 : wr.cell? ⟨gb402, 0, none⟩ = some (.slice A0_0 l0_0.length c0_0) := (blk_cell BK402.out 0).trans rfl
             have hcz129_1 : wr.cell? ⟨gb402, 1, none⟩ = some (.slice A0_1 l0_1.length c0_1) := (blk_cell BK402.out 1).trans rfl
             have hfz129_0 := blk_frozen BK402.out 0
             have hfz129_1 := blk_frozen BK402.out 1
             have p441 : 0 ≤ (x14_4 : Int) := od_
             have q441 : x14_4 < (l0_0.length : Int) := od_
             obtain ⟨ad441, e441, hx441_0, hx441_1, hx441_2, hx441_3, hx441_4⟩ := at_T40 HR0_0.out x14_4 p441 q441
             cases e441
             replace hx441_0 := pw_cell_below HB.out hx441_0
             replace hx441_1 := pw_cell_below HB.out hx441_1
             replace hx441_2 := pw_cell_below HB.out hx441_2
             replace hx441_3 := pw_cell_below HB.out hx441_3
             replace hx441_4 := pw_cell_below HB.out hx441_4
             replace p441 := eq_true p441
             replace q441 := eq_true q441
             go_wp2
             repeat (go_quiet (fail); try go_wp2)
             go_meet
             case rel => exact ⟨_, (((((rd_T40 t406 x12_4).f0).toList) == (((rd_T40 l0_0 x14_4).f0).toList) && ((((rd_T40 t406 x12_4).f1).toList) == (((rd_T40 l0_0 x14_4).f1).toList) && (((rd_T40 t406 x12_4).f2) == ((rd_T40 l0_0 x14_4).f2) && (((rd_T40 t406 x12_4).f3) == ((rd_T40 l0_0 x14_4).f3) && (((rd_T40 t406 x12_4).f4) == ((rd_T40 l0_0 x14_4).f4))))))), e1_, H', ⟨by have := HJ4.out; have := HJ21.out; have := HJ82.out; have := HK4.out; first | omega | exact Nat.le_refl _⟩, ⟨kR HO_419000⟩, ⟨kR HO_419001⟩, ⟨kR HO_420000⟩, ⟨kR HO_420001⟩, ⟨kR HO_433000⟩, ⟨kR HO_433001⟩, ⟨kR HO_434000⟩, ⟨kR HO_434001⟩, ⟨kB BK402⟩, ⟨kB BK418⟩, ⟨kB BK419⟩, ⟨kB BK432⟩, ⟨kB BK433⟩, ⟨kZ HB⟩⟩
            case rest =>
             clear HC112
             try clear p2
             try clear p4
             try clear q4
             try clear hx4
             try clear p6
             try clear p44
             try clear q44
             try clear hx44
             try clear p64
             try clear c111b0
             try clear c118b0
             try clear c119b0
             try clear c120b0
             try clear hx440_0
             try clear hx440_1
             try clear hx440_2
             try clear hx440_3
             try clear hx440_4
             try clear hx441_0
             try clear hx441_1
             try clear hx441_2
             try clear hx441_3
             try clear hx441_4
             try clear p2
             try clear p440
             try clear p441
             try clear p6
             try clear p64
             try clear q440
             try clear q441
             obtain ⟨kq, x103_111, rfl, HA, HJ111, HO_419000, HO_419001, HO_420000, HO_420001, HO_433000, HO_433001, HO_434000, HO_434001, BK402, BK418, BK419, BK432, BK433, HB⟩ := hcut
             cases kq with
             | zero => exact absurd HA.out (by simp [cantonlaw11_OwnedCuts.j4])
             | succ kj111 =>
              have H := HA.out
              clear HA
              simp only [cantonlaw11_OwnedCuts.j4] at H
              by_cases c135 : x103_111 = true
              rotate_left
              ·replace c135 := Bool.eq_false_iff.mpr c135
               subst c135
               have H1 : (if x13_4 < (t412.length : Int) then (if 0 ≤ x13_4 then (if 0 ≤ x14_4 then (if x14_4 < (l0_0.length : Int) then (if ((((rd_T40 t412 x13_4).f0).toList) == (((rd_T40 l0_0 x14_4).f0).toList) && ((((rd_T40 t412 x13_4).f1).toList) == (((rd_T40 l0_0 x14_4).f1).toList) && (((rd_T40 t412 x13_4).f2) == ((rd_T40 l0_0 x14_4).f2) && (((rd_T40 t412 x13_4).f3) == ((rd_T40 l0_0 x14_4).f3) && (((rd_T40 t412 x13_4).f4) == ((rd_T40 l0_0 x14_4).f4)))))) = true then (cantonlaw11_OwnedCuts.l0 kj111 t403 x12_4 (wrap64 (x13_4 + 1)) (wrap64 (x14_4 + 1)) l0_0 l0_1 t406 t409 t412 t415) else (some false)) else (none)) else (none)) else (none)) else (some false)) = some r := by rw [if_neg (show ¬ (false = true) by decide)] at H; exact H
               clear H
               have H := H1
               clear H1
               by_cases c136 : x13_4 < (t412.length : Int)
               rotate_left
               ·rw [if_neg c136] at H
                have c136b0 : decide (x13_4 < (t412.length : Int)) = false := decide_eq_false c136
                clear c136
                obtain rfl := Option.some.inj H
                have hnb159 := NB419_402.out
                have hnc159 := NB402_419.out
                have hnb160 := NB419_418.out
                have hnc160 := NB418_419.out
                have hnb161 := NB419_432.out
                have hnc161 := NB432_419.out
                have hnb162 := NB419_433.out
                have hnc162 := NB433_419.out
                have hcz163_0 : wc.cell? ⟨gb419, 0, none⟩ = some (.slice Ao32 t412.length co32) := (blk_cell BK419.out 0).trans rfl
                have hcz163_1 : wc.cell? ⟨gb419, 1, none⟩ = some (.slice Ao35 t415.length co35) := (blk_cell BK419.out 1).trans rfl
                have hfz163_0 := blk_frozen BK419.out 0
                have hfz163_1 := blk_frozen BK419.out 1
                go_wp2
                repeat (go_quiet (fail); try go_wp2)
                go_ret
                exact ⟨e2_, kZ HB⟩
               rw [if_pos c136] at H
               have c136b0 : decide (x13_4 < (t412.length : Int)) = true := decide_eq_true c136
               clear c136
               by_cases c137 : 0 ≤ x13_4
               rotate_left
               ·rw [if_neg c137] at H
                exact absurd H (by simp)
               rw [if_pos c137] at H
               have c137b0 : decide (0 ≤ x13_4) = true := decide_eq_true c137
               clear c137
               by_cases c138 : 0 ≤ x14_4
               rotate_left
               ·rw [if_neg c138] at H
                exact absurd H (by simp)
               rw [if_pos c138] at H
               have c138b0 : decide (0 ≤ x14_4) = true := decide_eq_true c138
               clear c138
               by_cases c139 : x14_4 < (l0_0.length : Int)
               rotate_left
               ·rw [if_neg c139] at H
                exact absurd H (by simp)
               rw [if_pos c139] at H
               have c139b0 : decide (x14_4 < (l0_0.length : Int)) = true := decide_eq_true c139
               clear c139
               by_cases c140 : ((((rd_T40 t412 x13_4).f0).toList) == (((rd_T40 l0_0 x14_4).f0).toList) && ((((rd_T40 t412 x13_4).f1).toList) == (((rd_T40 l0_0 x14_4).f1).toList) && (((rd_T40 t412 x13_4).f2) == ((rd_T40 l0_0 x14_4).f2) && (((rd_T40 t412 x13_4).f3) == ((rd_T40 l0_0 x14_4).f3) && (((rd_T40 t412 x13_4).f4) == ((rd_T40 l0_0 x14_4).f4)))))) = true
               rotate_left
               ·rw [if_neg c140] at H
                have c140b0 : ((((rd_T40 t412 x13_4).f0).toList) == (((rd_T40 l0_0 x14_4).f0).toList) && ((((rd_T40 t412 x13_4).f1).toList) == (((rd_T40 l0_0 x14_4).f1).toList) && (((rd_T40 t412 x13_4).f2) == ((rd_T40 l0_0 x14_4).f2) && (((rd_T40 t412 x13_4).f3) == ((rd_T40 l0_0 x14_4).f3) && (((rd_T40 t412 x13_4).f4) == ((rd_T40 l0_0 x14_4).f4)))))) = false := by simpa using c140
                (try (have c140b1 : decide ((((rd_T40 t412 x13_4).f0).toList) = (((rd_T40 l0_0 x14_4).f0).toList) && ((((rd_T40 t412 x13_4).f1).toList) == (((rd_T40 l0_0 x14_4).f1).toList) && (((rd_T40 t412 x13_4).f2) == ((rd_T40 l0_0 x14_4).f2) && (((rd_T40 t412 x13_4).f3) == ((rd_T40 l0_0 x14_4).f3) && (((rd_T40 t412 x13_4).f4) == ((rd_T40 l0_0 x14_4).f4)))))) = false := by simpa using c140))
                (try (have c140b2 : ((((rd_T40 t412 x13_4).f0).toList) == (((rd_T40 l0_0 x14_4).f0).toList) && ((((rd_T40 t412 x13_4).f1).toList) == (((rd_T40 l0_0 x14_4).f1).toList) && (((rd_T40 t412 x13_4).f2) == ((rd_T40 l0_0 x14_4).f2) && (((rd_T40 t412 x13_4).f3) == ((rd_T40 l0_0 x14_4).f3) && (((rd_T40 t412 x13_4).f4) == ((rd_T40 l0_0 x14_4).f4)))))) = false := by simpa using c140))
                (try (have c140b3 : ¬ ((((rd_T40 t412 x13_4).f0).toList) = (((rd_T40 l0_0 x14_4).f0).toList) && ((((rd_T40 t412 x13_4).f1).toList) == (((rd_T40 l0_0 x14_4).f1).toList) && (((rd_T40 t412 x13_4).f2) == ((rd_T40 l0_0 x14_4).f2) && (((rd_T40 t412 x13_4).f3) == ((rd_T40 l0_0 x14_4).f3) && (((rd_T40 t412 x13_4).f4) == ((rd_T40 l0_0 x14_4).f4)))))) := by simpa using c140))
                clear c140
                obtain rfl := Option.some.inj H
                have hnb150 := NB419_402.out
                have hnc150 := NB402_419.out
                have hnb151 := NB419_418.out
                have hnc151 := NB418_419.out
                have hnb152 := NB419_432.out
                have hnc152 := NB432_419.out
                have hnb153 := NB419_433.out
                have hnc153 := NB433_419.out
                have hcz154_0 : wc.cell? ⟨gb419, 0, none⟩ = some (.slice Ao32 t412.length co32) := (blk_cell BK419.out 0).trans rfl
                have hcz154_1 : wc.cell? ⟨gb419, 1, none⟩ = some (.slice Ao35 t415.length co35) := (blk_cell BK419.out 1).trans rfl
                have hfz154_0 := blk_frozen BK419.out 0
                have hfz154_1 := blk_frozen BK419.out 1
                have p442 : 0 ≤ (x13_4 : Int) := od_
                have q442 : x13_4 < (t412.length : Int) := od_
                obtain ⟨ad442, e442, hx442_0, hx442_1, hx442_2, hx442_3, hx442_4⟩ := at_T40 (Kd.R_reads' HO_420000.out).2.2 x13_4 p442 q442
                cases e442
                replace p442 := eq_true p442
                replace q442 := eq_true q442
                have hnb155 := NB402_418.out
                have hnc155 := NB418_402.out
                have hnb156 := NB402_432.out
                have hnc156 := NB432_402.out
                have hnb157 := NB402_433.out
                have hnc157 := NB433_402.out
                have hcz158_0 : wc.cell? ⟨gb402, 0, none⟩ = some (.slice A0_0 l0_0.length c0_0) := (blk_cell BK402.out 0).trans rfl
                have hcz158_1 : wc.cell? ⟨gb402, 1, none⟩ = some (.slice A0_1 l0_1.length c0_1) := (blk_cell BK402.out 1).trans rfl
                have hfz158_0 := blk_frozen BK402.out 0
                have hfz158_1 := blk_frozen BK402.out 1
                have p443 : 0 ≤ (x14_4 : Int) := od_
                have q443 : x14_4 < (l0_0.length : Int) := od_
                obtain ⟨ad443, e443, hx443_0, hx443_1, hx443_2, hx443_3, hx443_4⟩ := at_T40 HR0_0.out x14_4 p443 q443
                cases e443
                replace hx443_0 := pw_cell_below HB.out hx443_0
                replace hx443_1 := pw_cell_below HB.out hx443_1
                replace hx443_2 := pw_cell_below HB.out hx443_2
                replace hx443_3 := pw_cell_below HB.out hx443_3
                replace hx443_4 := pw_cell_below HB.out hx443_4
                replace p443 := eq_true p443
                replace q443 := eq_true q443
                go_wp2
                repeat (go_quiet (fail); try go_wp2)
                go_ret
                exact ⟨e2_, kZ HB⟩
               rw [if_pos c140] at H
               have c140b0 : ((((rd_T40 t412 x13_4).f0).toList) == (((rd_T40 l0_0 x14_4).f0).toList) && ((((rd_T40 t412 x13_4).f1).toList) == (((rd_T40 l0_0 x14_4).f1).toList) && (((rd_T40 t412 x13_4).f2) == ((rd_T40 l0_0 x14_4).f2) && (((rd_T40 t412 x13_4).f3) == ((rd_T40 l0_0 x14_4).f3) && (((rd_T40 t412 x13_4).f4) == ((rd_T40 l0_0 x14_4).f4)))))) = true := c140
               (try (have c140b1 : decide ((((rd_T40 t412 x13_4).f0).toList) = (((rd_T40 l0_0 x14_4).f0).toList) && ((((rd_T40 t412 x13_4).f1).toList) == (((rd_T40 l0_0 x14_4).f1).toList) && (((rd_T40 t412 x13_4).f2) == ((rd_T40 l0_0 x14_4).f2) && (((rd_T40 t412 x13_4).f3) == ((rd_T40 l0_0 x14_4).f3) && (((rd_T40 t412 x13_4).f4) == ((rd_T40 l0_0 x14_4).f4)))))) = true := by simpa using c140))
               (try (have c140b2 : ((((rd_T40 t412 x13_4).f0).toList) == (((rd_T40 l0_0 x14_4).f0).toList) && ((((rd_T40 t412 x13_4).f1).toList) == (((rd_T40 l0_0 x14_4).f1).toList) && (((rd_T40 t412 x13_4).f2) == ((rd_T40 l0_0 x14_4).f2) && (((rd_T40 t412 x13_4).f3) == ((rd_T40 l0_0 x14_4).f3) && (((rd_T40 t412 x13_4).f4) == ((rd_T40 l0_0 x14_4).f4)))))) = true := by simpa using c140))
               clear c140
               have H' := am_ H
               clear H
               have hnb141 := NB419_402.out
               have hnc141 := NB402_419.out
               have hnb142 := NB419_418.out
               have hnc142 := NB418_419.out
               have hnb143 := NB419_432.out
               have hnc143 := NB432_419.out
               have hnb144 := NB419_433.out
               have hnc144 := NB433_419.out
               have hcz145_0 : wc.cell? ⟨gb419, 0, none⟩ = some (.slice Ao32 t412.length co32) := (blk_cell BK419.out 0).trans rfl
               have hcz145_1 : wc.cell? ⟨gb419, 1, none⟩ = some (.slice Ao35 t415.length co35) := (blk_cell BK419.out 1).trans rfl
               have hfz145_0 := blk_frozen BK419.out 0
               have hfz145_1 := blk_frozen BK419.out 1
               have p442 : 0 ≤ (x13_4 : Int) := od_
               have q442 : x13_4 < (t412.length : Int) := od_
               obtain ⟨ad442, e442, hx442_0, hx442_1, hx442_2, hx442_3, hx442_4⟩ := at_T40 (Kd.R_reads' HO_420000.out).2.2 x13_4 p442 q442
               cases e442
               replace p442 := eq_true p442
               replace q442 := eq_true q442
               have hnb146 := NB402_418.out
               have hnc146 := NB418_402.out
               have hnb147 := NB402_432.out
               have hnc147 := NB432_402.out
               have hnb148 := NB402_433.out
               have hnc148 := NB433_402.out
               have hcz149_0 : wc.cell? ⟨gb402, 0, none⟩ = some (.slice A0_0 l0_0.length c0_0) := (blk_cell BK402.out 0).trans rfl
               have hcz149_1 : wc.cell? ⟨gb402, 1, none⟩ = some (.slice A0_1 l0_1.length c0_1) := (blk_cell BK402.out 1).trans rfl
               have hfz149_0 := blk_frozen BK402.out 0
               have hfz149_1 := blk_frozen BK402.out 1
               have p443 : 0 ≤ (x14_4 : Int) := od_
               have q443 : x14_4 < (l0_0.length : Int) := od_
               obtain ⟨ad443, e443, hx443_0, hx443_1, hx443_2, hx443_3, hx443_4⟩ := at_T40 HR0_0.out x14_4 p443 q443
               cases e443
               replace hx443_0 := pw_cell_below HB.out hx443_0
               replace hx443_1 := pw_cell_below HB.out hx443_1
               replace hx443_2 := pw_cell_below HB.out hx443_2
               replace hx443_3 := pw_cell_below HB.out hx443_3
               replace hx443_4 := pw_cell_below HB.out hx443_4
               replace p443 := eq_true p443
               replace q443 := eq_true q443
               go_wp2
               repeat (go_quiet (fail); try go_wp2)
               go_roundg kj111
               case measure => have := HJ4.out; have := HJ21.out; have := HJ82.out; have := HK4.out; have := HJ111.out; omega
               case rel => exact ⟨(x12_4), (wrap64 (x13_4 + 1)), (wrap64 (x14_4 + 1)), e1_, e1_, e1_, H', ⟨by have := HJ4.out; have := HJ21.out; have := HJ82.out; have := HK4.out; have := HJ111.out; omega⟩, ⟨kR HO_419000⟩, ⟨kR HO_419001⟩, ⟨kR HO_420000⟩, ⟨kR HO_420001⟩, ⟨kR HO_433000⟩, ⟨kR HO_433001⟩, ⟨kR HO_434000⟩, ⟨kR HO_434001⟩, ⟨kB BK402⟩, ⟨kB BK418⟩, ⟨kB BK419⟩, ⟨kB BK432⟩, ⟨kB BK433⟩, ⟨kZ HB⟩⟩
              subst c135
              have H1 : (cantonlaw11_OwnedCuts.l0 kj111 t403 (wrap64 (x12_4 + 1)) x13_4 (wrap64 (x14_4 + 1)) l0_0 l0_1 t406 t409 t412 t415) = some r := by rw [if_pos rfl] at H; exact H
              clear H
              have H := H1
              clear H1
              have H' := am_ H
              clear H
              go_wp2
              repeat (go_quiet (fail); try go_wp2)
              go_roundg kj111
              case measure => have := HJ4.out; have := HJ21.out; have := HJ82.out; have := HK4.out; have := HJ111.out; omega
              case rel => exact ⟨(wrap64 (x12_4 + 1)), (x13_4), (wrap64 (x14_4 + 1)), e1_, e1_, e1_, H', ⟨by have := HJ4.out; have := HJ21.out; have := HJ82.out; have := HK4.out; have := HJ111.out; omega⟩, ⟨kR HO_419000⟩, ⟨kR HO_419001⟩, ⟨kR HO_420000⟩, ⟨kR HO_420001⟩, ⟨kR HO_433000⟩, ⟨kR HO_433001⟩, ⟨kR HO_434000⟩, ⟨kR HO_434001⟩, ⟨kB BK402⟩, ⟨kB BK418⟩, ⟨kB BK419⟩, ⟨kB BK432⟩, ⟨kB BK433⟩, ⟨kZ HB⟩⟩
         subst c100
         have H1 : (if t403 = true then (some ((wrap64 ((wrap64 ((wrap64 ((t406.length : Int) + (t412.length : Int))) + (t409.length : Int))) + (t415.length : Int))) == 0)) else (some false)) = some r := by rw [if_pos rfl] at H; exact H
         clear H
         have H := H1
         clear H1
         by_cases c101 : t403 = true
         rotate_left
         ·replace c101 := Bool.eq_false_iff.mpr c101
          subst c101
          have H1 : (some false) = some r := by rw [if_neg (show ¬ (false = true) by decide)] at H; exact H
          clear H
          have H := H1
          clear H1
          obtain rfl := Option.some.inj H
          go_wp2
          repeat (go_quiet (fail); try go_wp2)
          go_ret
          exact ⟨e2_, kZ HB⟩
         subst c101
         have H1 : (some ((wrap64 ((wrap64 ((wrap64 ((t406.length : Int) + (t412.length : Int))) + (t409.length : Int))) + (t415.length : Int))) == 0)) = some r := by rw [if_pos rfl] at H; exact H
         clear H
         have H := H1
         clear H1
         obtain rfl := Option.some.inj H
         have hnb102 := NB418_402.out
         have hnc102 := NB402_418.out
         have hnb103 := NB418_419.out
         have hnc103 := NB419_418.out
         have hnb104 := NB418_432.out
         have hnc104 := NB432_418.out
         have hnb105 := NB418_433.out
         have hnc105 := NB433_418.out
         have hcz106_0 : wc.cell? ⟨gb418, 0, none⟩ = some (.slice Ao27 t406.length co27) := (blk_cell BK418.out 0).trans rfl
         have hcz106_1 : wc.cell? ⟨gb418, 1, none⟩ = some (.slice Ao31 t409.length co31) := (blk_cell BK418.out 1).trans rfl
         have hfz106_0 := blk_frozen BK418.out 0
         have hfz106_1 := blk_frozen BK418.out 1
         have hnb107 := NB419_402.out
         have hnc107 := NB402_419.out
         have hnb108 := NB419_432.out
         have hnc108 := NB432_419.out
         have hnb109 := NB419_433.out
         have hnc109 := NB433_419.out
         have hcz110_0 : wc.cell? ⟨gb419, 0, none⟩ = some (.slice Ao32 t412.length co32) := (blk_cell BK419.out 0).trans rfl
         have hcz110_1 : wc.cell? ⟨gb419, 1, none⟩ = some (.slice Ao35 t415.length co35) := (blk_cell BK419.out 1).trans rfl
         have hfz110_0 := blk_frozen BK419.out 0
         have hfz110_1 := blk_frozen BK419.out 1
         go_wp2
         repeat (go_quiet (fail); try go_wp2)
         go_ret
         exact ⟨e2_, kZ HB⟩
end Go.Proofs.Ytinjajpnbbknnaa.Q
