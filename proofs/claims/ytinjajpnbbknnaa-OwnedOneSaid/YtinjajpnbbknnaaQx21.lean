-- Written by a program of this session (xprint) out of the translation; over contracts proved by hand.
import Derived.Test.YtinjajpnbbknnaaQx0
import Derived.Test.YtinjajpnbbknnaaSq
import Derived.Test.YtinjajpnbbknnaaQx8
import Derived.Test.YtinjajpnbbknnaaQx9
import Derived.Test.YtinjajpnbbknnaaQx10
import Derived.Test.YtinjajpnbbknnaaQx11
namespace Go.Proofs.Ytinjajpnbbknnaa.Cut2
end Go.Proofs.Ytinjajpnbbknnaa.Cut2
namespace Go.Proofs.Ytinjajpnbbknnaa.RPut
end Go.Proofs.Ytinjajpnbbknnaa.RPut
namespace Go.Proofs.Ytinjajpnbbknnaa.Split
end Go.Proofs.Ytinjajpnbbknnaa.Split
namespace Go.Proofs.Ytinjajpnbbknnaa.Q
open Go.Proofs.Ytinjajpnbbknnaa.Cut2 Go.Proofs.Ytinjajpnbbknnaa.RPut Go.Proofs.Ytinjajpnbbknnaa.Split
set_option linter.unnecessarySimpa false
open Go.RowKit Go.Proofs.YtinjajpnbbknnaaW.PrintWords Go.Proofs.YtinjajpnbbknnaaW.PrintLast Go.Proofs.YtinjajpnbbknnaaW.PrintMore
attribute [local go_sem] max2_int min2_int max_two min_two max_three min_three max_four min_four   -- for this text's walks alone
set_option linter.unusedVariables false
set_option linter.unusedSimpArgs false

/-! ### cantonlaw11_OwnedOne: function 5 -/
mutual
def cantonlaw11_OwnedOne.j0 : Nat → List (S45) → ByteArray → Int → ByteArray → Bool → Bool → Option (Bool)
 | 0, _, _, _, _, _, _ => none
 | k + 1, x0, x1, x2, x3, x9, x39 => if x39 = true then (some x9) else ((owned_Install.f k x0 x1 x2).bind fun bt448 => ((owned_Freeze.f k x0 x1).bind fun bt452 => (cantonlaw11_OwnedOne.l0 k x0 x1 x3 x9 bt448.1 bt448.2 bt452.1 bt452.2 false 0)))
def cantonlaw11_OwnedOne.l0 : Nat → List (S45) → ByteArray → ByteArray → Bool → List (S45) → Bool → List (S45) → Bool → Bool → Int → Option (Bool)
 | 0, _, _, _, _, _, _, _, _, _, _ => none
 | k + 1, x0, x1, x3, x9, x10, x11, x12, x13, x14, x15 => if x15 < (x0.length : Int) then (if x14 = true then (cantonlaw11_OwnedOne.l0 k x0 x1 x3 x9 x10 x11 x12 x13 true (wrap64 (x15 + 1))) else (if 0 ≤ x15 then ((cantonref01_In.f k x3 ((rd_T45 x0 x15).f0)).bind fun t457 => (if t457 = true then (cantonlaw11_OwnedOne.l0 k x0 x1 x3 x9 x10 x11 x12 x13 (decide ((((rd_T45 x0 x15).f0).size : Int) > (x1.size : Int))) (wrap64 (x15 + 1))) else (cantonlaw11_OwnedOne.l0 k x0 x1 x3 x9 x10 x11 x12 x13 false (wrap64 (x15 + 1))))) else (none))) else ((cantonref01_In.f k x3 x1).bind fun t459 => (if t459 = true then (cantonlaw11_OwnedOne.j2 k x0 x1 x3 x9 x10 x11 x12 x13 (!x14)) else (cantonlaw11_OwnedOne.j2 k x0 x1 x3 x9 x10 x11 x12 x13 false)))
def cantonlaw11_OwnedOne.j2 : Nat → List (S45) → ByteArray → ByteArray → Bool → List (S45) → Bool → List (S45) → Bool → Bool → Option (Bool)
 | 0, _, _, _, _, _, _, _, _, _ => none
 | k + 1, x0, x1, x3, x9, x10, x11, x12, x13, x16 => if x11 = true then (if x16 = true then ((owned_State.f k x10 x3).bind fun t460 => (if t460 = 1 then (cantonlaw11_OwnedOne.j3 k x0 x1 x3 x9 x10 x11 x12 x13 x16 false) else (cantonlaw11_OwnedOne.j3 k x0 x1 x3 x9 x10 x11 x12 x13 x16 true))) else ((owned_State.f k x10 x3).bind fun t461 => ((owned_State.f k x0 x3).bind fun t462 => (cantonlaw11_OwnedOne.j3 k x0 x1 x3 x9 x10 x11 x12 x13 x16 (t461 != t462))))) else (cantonlaw11_OwnedOne.j3 k x0 x1 x3 x9 x10 x11 x12 x13 x16 false)
def cantonlaw11_OwnedOne.j3 : Nat → List (S45) → ByteArray → ByteArray → Bool → List (S45) → Bool → List (S45) → Bool → Bool → Bool → Option (Bool)
 | 0, _, _, _, _, _, _, _, _, _, _ => none
 | k + 1, x0, x1, x3, x9, x10, x11, x12, x13, x16, x113 => if x113 = true then (some false) else (if x13 = true then (if x16 = true then ((owned_State.f k x12 x3).bind fun t463 => (if t463 = 2 then (cantonlaw11_OwnedOne.j4 k x0 x1 x9 x10 x11 x12 x13 false) else (cantonlaw11_OwnedOne.j4 k x0 x1 x9 x10 x11 x12 x13 true))) else ((owned_State.f k x12 x3).bind fun t464 => ((owned_State.f k x0 x3).bind fun t465 => (cantonlaw11_OwnedOne.j4 k x0 x1 x9 x10 x11 x12 x13 (t464 != t465))))) else (cantonlaw11_OwnedOne.j4 k x0 x1 x9 x10 x11 x12 x13 false))
def cantonlaw11_OwnedOne.j4 : Nat → List (S45) → ByteArray → Bool → List (S45) → Bool → List (S45) → Bool → Bool → Option (Bool)
 | 0, _, _, _, _, _, _, _, _ => none
 | k + 1, x0, x1, x9, x10, x11, x12, x13, x139 => if x139 = true then (some false) else (if x9 = true then (if x11 = true then ((cantonref11_Right.f k x10).bind fun t466 => (if t466 = true then (if x13 = true then ((cantonref11_Right.f k x12).bind fun t467 => (if t467 = true then ((owned_State.f k x0 x1).bind fun t468 => (some (t468 == 1))) else (some false))) else (some true)) else (some false))) else (if x13 = true then ((cantonref11_Right.f k x12).bind fun t469 => (if t469 = true then ((owned_State.f k x0 x1).bind fun t470 => (some (t470 == 1))) else (some false))) else (some true))) else (some false))
end
def cantonlaw11_OwnedOne.f (k : Nat) (l0 : List (S45)) (a1 : ByteArray) (a2 : Int) (a3 : ByteArray) : Option (Bool) := (cantonlaw11_head.f k).bind fun t444 => ((cantonlaw11_Great.f k l0).bind fun t445 => (if t445 = true then (cantonlaw11_OwnedOne.j0 k l0 a1 a2 a3 t444 true) else (if (a1.size : Int) > 1000 then (cantonlaw11_OwnedOne.j0 k l0 a1 a2 a3 t444 true) else (if (a3.size : Int) > 1000 then (cantonlaw11_OwnedOne.j0 k l0 a1 a2 a3 t444 true) else ((cantonref11_Right.f k l0).bind fun t446 => (if t446 = true then ((cantonref01_Right.f k a3).bind fun t447 => (cantonlaw11_OwnedOne.j0 k l0 a1 a2 a3 t444 (!t447))) else (cantonlaw11_OwnedOne.j0 k l0 a1 a2 a3 t444 true)))))))
theorem cantonlaw11_OwnedOne.mono_l : ∀ k, (∀ y0 y1 y2 y3 y4 y5, LeO (cantonlaw11_OwnedOne.j0 k y0 y1 y2 y3 y4 y5) (cantonlaw11_OwnedOne.j0 (k + 1) y0 y1 y2 y3 y4 y5)) ∧ (∀ y0 y1 y2 y3 y4 y5 y6 y7 y8 y9, LeO (cantonlaw11_OwnedOne.l0 k y0 y1 y2 y3 y4 y5 y6 y7 y8 y9) (cantonlaw11_OwnedOne.l0 (k + 1) y0 y1 y2 y3 y4 y5 y6 y7 y8 y9)) ∧ (∀ y0 y1 y2 y3 y4 y5 y6 y7 y8, LeO (cantonlaw11_OwnedOne.j2 k y0 y1 y2 y3 y4 y5 y6 y7 y8) (cantonlaw11_OwnedOne.j2 (k + 1) y0 y1 y2 y3 y4 y5 y6 y7 y8)) ∧ (∀ y0 y1 y2 y3 y4 y5 y6 y7 y8 y9, LeO (cantonlaw11_OwnedOne.j3 k y0 y1 y2 y3 y4 y5 y6 y7 y8 y9) (cantonlaw11_OwnedOne.j3 (k + 1) y0 y1 y2 y3 y4 y5 y6 y7 y8 y9)) ∧ (∀ y0 y1 y2 y3 y4 y5 y6 y7, LeO (cantonlaw11_OwnedOne.j4 k y0 y1 y2 y3 y4 y5 y6 y7) (cantonlaw11_OwnedOne.j4 (k + 1) y0 y1 y2 y3 y4 y5 y6 y7))
 | 0 => ⟨fun _ _ _ _ _ _ r h => by simp [cantonlaw11_OwnedOne.j0] at h, fun _ _ _ _ _ _ _ _ _ _ r h => by simp [cantonlaw11_OwnedOne.l0] at h, fun _ _ _ _ _ _ _ _ _ r h => by simp [cantonlaw11_OwnedOne.j2] at h, fun _ _ _ _ _ _ _ _ _ _ r h => by simp [cantonlaw11_OwnedOne.j3] at h, fun _ _ _ _ _ _ _ _ r h => by simp [cantonlaw11_OwnedOne.j4] at h⟩
 | k + 1 => by
  obtain ⟨ih0, ih1, ih2, ih3, ih4⟩ := cantonlaw11_OwnedOne.mono_l k
  refine ⟨?_, ?_, ?_, ?_, ?_⟩
  ·intro y0 y1 y2 y3 y4 y5
   unfold cantonlaw11_OwnedOne.j0
   repeat' first
   | (with_reducible exact ih0 _ _ _ _ _ _)
   | (with_reducible exact ih1 _ _ _ _ _ _ _ _ _ _)
   | (with_reducible exact ih2 _ _ _ _ _ _ _ _ _)
   | (with_reducible exact ih3 _ _ _ _ _ _ _ _ _ _)
   | (with_reducible exact ih4 _ _ _ _ _ _ _ _)
   | (with_reducible exact cantonlaw11_Great.mono _ _)
   | (with_reducible exact cantonlaw11_head.mono _)
   | (with_reducible exact cantonref01_In.mono _ _ _)
   | (with_reducible exact cantonref01_Right.mono _ _)
   | (with_reducible exact cantonref11_Right.mono _ _)
   | (with_reducible exact owned_Freeze.mono _ _ _)
   | (with_reducible exact owned_Install.mono _ _ _ _)
   | (with_reducible exact owned_State.mono _ _ _)
   | (with_reducible exact LeO.refl _)
   | (with_reducible exact LeO.none _)
   | (with_reducible refine LeO.ite ?_ ?_)
   | (with_reducible refine LeO.bind ?_ (fun _ => ?_))
   | exact ih0 _ _ _ _ _ _
   | exact ih1 _ _ _ _ _ _ _ _ _ _
   | exact ih2 _ _ _ _ _ _ _ _ _
   | exact ih3 _ _ _ _ _ _ _ _ _ _
   | exact ih4 _ _ _ _ _ _ _ _
   | exact cantonlaw11_Great.mono _ _
   | exact cantonlaw11_head.mono _
   | exact cantonref01_In.mono _ _ _
   | exact cantonref01_Right.mono _ _
   | exact cantonref11_Right.mono _ _
   | exact owned_Freeze.mono _ _ _
   | exact owned_Install.mono _ _ _ _
   | exact owned_State.mono _ _ _
   | exact LeO.none _
   | refine LeO.ite ?_ ?_
   | refine LeO.bind ?_ (fun _ => ?_)
  ·intro y0 y1 y2 y3 y4 y5 y6 y7 y8 y9
   unfold cantonlaw11_OwnedOne.l0
   repeat' first
   | (with_reducible exact ih0 _ _ _ _ _ _)
   | (with_reducible exact ih1 _ _ _ _ _ _ _ _ _ _)
   | (with_reducible exact ih2 _ _ _ _ _ _ _ _ _)
   | (with_reducible exact ih3 _ _ _ _ _ _ _ _ _ _)
   | (with_reducible exact ih4 _ _ _ _ _ _ _ _)
   | (with_reducible exact cantonlaw11_Great.mono _ _)
   | (with_reducible exact cantonlaw11_head.mono _)
   | (with_reducible exact cantonref01_In.mono _ _ _)
   | (with_reducible exact cantonref01_Right.mono _ _)
   | (with_reducible exact cantonref11_Right.mono _ _)
   | (with_reducible exact owned_Freeze.mono _ _ _)
   | (with_reducible exact owned_Install.mono _ _ _ _)
   | (with_reducible exact owned_State.mono _ _ _)
   | (with_reducible exact LeO.refl _)
   | (with_reducible exact LeO.none _)
   | (with_reducible refine LeO.ite ?_ ?_)
   | (with_reducible refine LeO.bind ?_ (fun _ => ?_))
   | exact ih0 _ _ _ _ _ _
   | exact ih1 _ _ _ _ _ _ _ _ _ _
   | exact ih2 _ _ _ _ _ _ _ _ _
   | exact ih3 _ _ _ _ _ _ _ _ _ _
   | exact ih4 _ _ _ _ _ _ _ _
   | exact cantonlaw11_Great.mono _ _
   | exact cantonlaw11_head.mono _
   | exact cantonref01_In.mono _ _ _
   | exact cantonref01_Right.mono _ _
   | exact cantonref11_Right.mono _ _
   | exact owned_Freeze.mono _ _ _
   | exact owned_Install.mono _ _ _ _
   | exact owned_State.mono _ _ _
   | exact LeO.none _
   | refine LeO.ite ?_ ?_
   | refine LeO.bind ?_ (fun _ => ?_)
  ·intro y0 y1 y2 y3 y4 y5 y6 y7 y8
   unfold cantonlaw11_OwnedOne.j2
   repeat' first
   | (with_reducible exact ih0 _ _ _ _ _ _)
   | (with_reducible exact ih1 _ _ _ _ _ _ _ _ _ _)
   | (with_reducible exact ih2 _ _ _ _ _ _ _ _ _)
   | (with_reducible exact ih3 _ _ _ _ _ _ _ _ _ _)
   | (with_reducible exact ih4 _ _ _ _ _ _ _ _)
   | (with_reducible exact cantonlaw11_Great.mono _ _)
   | (with_reducible exact cantonlaw11_head.mono _)
   | (with_reducible exact cantonref01_In.mono _ _ _)
   | (with_reducible exact cantonref01_Right.mono _ _)
   | (with_reducible exact cantonref11_Right.mono _ _)
   | (with_reducible exact owned_Freeze.mono _ _ _)
   | (with_reducible exact owned_Install.mono _ _ _ _)
   | (with_reducible exact owned_State.mono _ _ _)
   | (with_reducible exact LeO.refl _)
   | (with_reducible exact LeO.none _)
   | (with_reducible refine LeO.ite ?_ ?_)
   | (with_reducible refine LeO.bind ?_ (fun _ => ?_))
   | exact ih0 _ _ _ _ _ _
   | exact ih1 _ _ _ _ _ _ _ _ _ _
   | exact ih2 _ _ _ _ _ _ _ _ _
   | exact ih3 _ _ _ _ _ _ _ _ _ _
   | exact ih4 _ _ _ _ _ _ _ _
   | exact cantonlaw11_Great.mono _ _
   | exact cantonlaw11_head.mono _
   | exact cantonref01_In.mono _ _ _
   | exact cantonref01_Right.mono _ _
   | exact cantonref11_Right.mono _ _
   | exact owned_Freeze.mono _ _ _
   | exact owned_Install.mono _ _ _ _
   | exact owned_State.mono _ _ _
   | exact LeO.none _
   | refine LeO.ite ?_ ?_
   | refine LeO.bind ?_ (fun _ => ?_)
  ·intro y0 y1 y2 y3 y4 y5 y6 y7 y8 y9
   unfold cantonlaw11_OwnedOne.j3
   repeat' first
   | (with_reducible exact ih0 _ _ _ _ _ _)
   | (with_reducible exact ih1 _ _ _ _ _ _ _ _ _ _)
   | (with_reducible exact ih2 _ _ _ _ _ _ _ _ _)
   | (with_reducible exact ih3 _ _ _ _ _ _ _ _ _ _)
   | (with_reducible exact ih4 _ _ _ _ _ _ _ _)
   | (with_reducible exact cantonlaw11_Great.mono _ _)
   | (with_reducible exact cantonlaw11_head.mono _)
   | (with_reducible exact cantonref01_In.mono _ _ _)
   | (with_reducible exact cantonref01_Right.mono _ _)
   | (with_reducible exact cantonref11_Right.mono _ _)
   | (with_reducible exact owned_Freeze.mono _ _ _)
   | (with_reducible exact owned_Install.mono _ _ _ _)
   | (with_reducible exact owned_State.mono _ _ _)
   | (with_reducible exact LeO.refl _)
   | (with_reducible exact LeO.none _)
   | (with_reducible refine LeO.ite ?_ ?_)
   | (with_reducible refine LeO.bind ?_ (fun _ => ?_))
   | exact ih0 _ _ _ _ _ _
   | exact ih1 _ _ _ _ _ _ _ _ _ _
   | exact ih2 _ _ _ _ _ _ _ _ _
   | exact ih3 _ _ _ _ _ _ _ _ _ _
   | exact ih4 _ _ _ _ _ _ _ _
   | exact cantonlaw11_Great.mono _ _
   | exact cantonlaw11_head.mono _
   | exact cantonref01_In.mono _ _ _
   | exact cantonref01_Right.mono _ _
   | exact cantonref11_Right.mono _ _
   | exact owned_Freeze.mono _ _ _
   | exact owned_Install.mono _ _ _ _
   | exact owned_State.mono _ _ _
   | exact LeO.none _
   | refine LeO.ite ?_ ?_
   | refine LeO.bind ?_ (fun _ => ?_)
  ·intro y0 y1 y2 y3 y4 y5 y6 y7
   unfold cantonlaw11_OwnedOne.j4
   repeat' first
   | (with_reducible exact ih0 _ _ _ _ _ _)
   | (with_reducible exact ih1 _ _ _ _ _ _ _ _ _ _)
   | (with_reducible exact ih2 _ _ _ _ _ _ _ _ _)
   | (with_reducible exact ih3 _ _ _ _ _ _ _ _ _ _)
   | (with_reducible exact ih4 _ _ _ _ _ _ _ _)
   | (with_reducible exact cantonlaw11_Great.mono _ _)
   | (with_reducible exact cantonlaw11_head.mono _)
   | (with_reducible exact cantonref01_In.mono _ _ _)
   | (with_reducible exact cantonref01_Right.mono _ _)
   | (with_reducible exact cantonref11_Right.mono _ _)
   | (with_reducible exact owned_Freeze.mono _ _ _)
   | (with_reducible exact owned_Install.mono _ _ _ _)
   | (with_reducible exact owned_State.mono _ _ _)
   | (with_reducible exact LeO.refl _)
   | (with_reducible exact LeO.none _)
   | (with_reducible refine LeO.ite ?_ ?_)
   | (with_reducible refine LeO.bind ?_ (fun _ => ?_))
   | exact ih0 _ _ _ _ _ _
   | exact ih1 _ _ _ _ _ _ _ _ _ _
   | exact ih2 _ _ _ _ _ _ _ _ _
   | exact ih3 _ _ _ _ _ _ _ _ _ _
   | exact ih4 _ _ _ _ _ _ _ _
   | exact cantonlaw11_Great.mono _ _
   | exact cantonlaw11_head.mono _
   | exact cantonref01_In.mono _ _ _
   | exact cantonref01_Right.mono _ _
   | exact cantonref11_Right.mono _ _
   | exact owned_Freeze.mono _ _ _
   | exact owned_Install.mono _ _ _ _
   | exact owned_State.mono _ _ _
   | exact LeO.none _
   | refine LeO.ite ?_ ?_
   | refine LeO.bind ?_ (fun _ => ?_)
theorem cantonlaw11_OwnedOne.mono : ∀ a0 a1 a2 a3 k, LeO (cantonlaw11_OwnedOne.f k a0 a1 a2 a3) (cantonlaw11_OwnedOne.f (k + 1) a0 a1 a2 a3) := by
 intro a0 a1 a2 a3 k
 obtain ⟨ih0, ih1, ih2, ih3, ih4⟩ := cantonlaw11_OwnedOne.mono_l k
 unfold cantonlaw11_OwnedOne.f
 repeat' first
   | (with_reducible exact ih0 _ _ _ _ _ _)
   | (with_reducible exact ih1 _ _ _ _ _ _ _ _ _ _)
   | (with_reducible exact ih2 _ _ _ _ _ _ _ _ _)
   | (with_reducible exact ih3 _ _ _ _ _ _ _ _ _ _)
   | (with_reducible exact ih4 _ _ _ _ _ _ _ _)
   | (with_reducible exact cantonlaw11_Great.mono _ _)
   | (with_reducible exact cantonlaw11_head.mono _)
   | (with_reducible exact cantonref01_In.mono _ _ _)
   | (with_reducible exact cantonref01_Right.mono _ _)
   | (with_reducible exact cantonref11_Right.mono _ _)
   | (with_reducible exact owned_Freeze.mono _ _ _)
   | (with_reducible exact owned_Install.mono _ _ _ _)
   | (with_reducible exact owned_State.mono _ _ _)
   | (with_reducible exact LeO.refl _)
   | (with_reducible exact LeO.none _)
   | (with_reducible refine LeO.ite ?_ ?_)
   | (with_reducible refine LeO.bind ?_ (fun _ => ?_))
   | exact ih0 _ _ _ _ _ _
   | exact ih1 _ _ _ _ _ _ _ _ _ _
   | exact ih2 _ _ _ _ _ _ _ _ _
   | exact ih3 _ _ _ _ _ _ _ _ _ _
   | exact ih4 _ _ _ _ _ _ _ _
   | exact cantonlaw11_Great.mono _ _
   | exact cantonlaw11_head.mono _
   | exact cantonref01_In.mono _ _ _
   | exact cantonref01_Right.mono _ _
   | exact cantonref11_Right.mono _ _
   | exact owned_Freeze.mono _ _ _
   | exact owned_Install.mono _ _ _ _
   | exact owned_State.mono _ _ _
   | exact LeO.none _
   | refine LeO.ite ?_ ?_
   | refine LeO.bind ?_ (fun _ => ?_)
set_option maxHeartbeats 8000000 in
set_option maxRecDepth 100000 in
theorem cantonlaw11_OwnedOne.calls (k : Nat) (A0 : Option Addr) (c0 : Nat) (l0 : List (S45)) (a1 : ByteArray) (a2 : Int) (a3 : ByteArray) (r : Bool) (w : World) (hr0 : Kd.C k45 w A0 l0.length l0) (hc0 : l0.length ≤ c0) (h : cantonlaw11_OwnedOne.f k l0 a1 a2 a3 = some r) :
  Calls Try.prog 5 #[.slice A0 l0.length c0, .string a1, .int .i64 a2, .string a3] w fun e w' => e = .returned (.bool r) ∧ Below w.heap.size w w' := by
 have HR0 := Aside0.mk hr0
 have HC0 := Aside0.mk hc0
 clear hr0 hc0
 have HB := Aside0.mk (Below.refl w.heap.size w)
 have H : ((cantonlaw11_head.f k).bind fun t444 => ((cantonlaw11_Great.f k l0).bind fun t445 => (if t445 = true then (cantonlaw11_OwnedOne.j0 k l0 a1 a2 a3 t444 true) else (if (a1.size : Int) > 1000 then (cantonlaw11_OwnedOne.j0 k l0 a1 a2 a3 t444 true) else (if (a3.size : Int) > 1000 then (cantonlaw11_OwnedOne.j0 k l0 a1 a2 a3 t444 true) else ((cantonref11_Right.f k l0).bind fun t446 => (if t446 = true then ((cantonref01_Right.f k a3).bind fun t447 => (cantonlaw11_OwnedOne.j0 k l0 a1 a2 a3 t444 (!t447))) else (cantonlaw11_OwnedOne.j0 k l0 a1 a2 a3 t444 true)))))))) = some r := h
 clear h
 replace H := Option.bind_eq_some_iff.mp H
 obtain ⟨t444, A50, H⟩ := H
 replace H : ((cantonlaw11_Great.f k l0).bind fun t445 => (if t445 = true then (cantonlaw11_OwnedOne.j0 k l0 a1 a2 a3 t444 true) else (if (a1.size : Int) > 1000 then (cantonlaw11_OwnedOne.j0 k l0 a1 a2 a3 t444 true) else (if (a3.size : Int) > 1000 then (cantonlaw11_OwnedOne.j0 k l0 a1 a2 a3 t444 true) else ((cantonref11_Right.f k l0).bind fun t446 => (if t446 = true then ((cantonref01_Right.f k a3).bind fun t447 => (cantonlaw11_OwnedOne.j0 k l0 a1 a2 a3 t444 (!t447))) else (cantonlaw11_OwnedOne.j0 k l0 a1 a2 a3 t444 true))))))) = some r := H
 have A5 := Aside0.mk A50
 clear A50
 have HC6 := Aside0.mk H
 clear H
 go_enter Try.func5, Try.ntmps5
 go_upto_region 2 with (first | ((with_reducible refine gate_callee (f := 9) rfl ?_); refine gL (some 17) Try.func9 #[] rfl rfl ?_; (with_reducible refine (cantonlaw11_head.calls k  t444 _ A5.out).mono ?_); rintro e w7 ⟨rfl, hb⟩; refine ⟨_, rfl, ?_⟩; have n0_ := Aside0.mk (below_step (kZ HB) hb); clear HB; have HB := n0_; clear n0_; (try clear hb); (try clear hb2); (try clear hk); (try clear hi)))
 (try simp only [Act.put, List.setIfInBounds_toArray, List.set_cons_zero, List.set_cons_succ])
 go_cut [39] (fun v39 wc => ∃ (kq : Nat) (x39_5 : Bool), v39 = .bool x39_5 ∧ Aside0 (cantonlaw11_OwnedOne.j0 kq l0 a1 a2 a3 t444 x39_5 = some r) ∧ Aside0 (kq ≤ k) ∧ Aside0 (Below w.heap.size w wc))
 case first =>
  have H := HC6.out
  clear HC6
  replace H := Option.bind_eq_some_iff.mp H
  obtain ⟨t445, A80, H⟩ := H
  replace H : (if t445 = true then (cantonlaw11_OwnedOne.j0 k l0 a1 a2 a3 t444 true) else (if (a1.size : Int) > 1000 then (cantonlaw11_OwnedOne.j0 k l0 a1 a2 a3 t444 true) else (if (a3.size : Int) > 1000 then (cantonlaw11_OwnedOne.j0 k l0 a1 a2 a3 t444 true) else ((cantonref11_Right.f k l0).bind fun t446 => (if t446 = true then ((cantonref01_Right.f k a3).bind fun t447 => (cantonlaw11_OwnedOne.j0 k l0 a1 a2 a3 t444 (!t447))) else (cantonlaw11_OwnedOne.j0 k l0 a1 a2 a3 t444 true)))))) = some r := H
  have A8 := Aside0.mk A80
  clear A80
  by_cases c9 : t445 = true
  ·subst c9
   have H1 : (cantonlaw11_OwnedOne.j0 k l0 a1 a2 a3 t444 true) = some r := by rw [if_pos rfl] at H; exact H
   clear H
   have H := H1
   clear H1
   have H' := Aside0.mk H
   clear H
   go_wp2_with (first | ((with_reducible refine gate_callee (f := 10) rfl ?_); refine gL (some 19) Try.func10 #[.slice A0 l0.length c0] rfl rfl ?_; (with_reducible refine (cantonlaw11_Great.calls k _ _ l0 true _ ?side1 ?side2 A8.out).mono ?_); (case side1 => exact kC ((Kd.C_below HR0.out HB.out))); (case side2 => exact HC0.out); rintro e w10 ⟨rfl, hb⟩; refine ⟨_, rfl, ?_⟩; have n0_ := Aside0.mk (below_step (kZ HB) hb); clear HB; have HB := n0_; clear n0_; (try clear hb); (try clear hb2); (try clear hk); (try clear hi)))
   go_meet
   case rel => exact ⟨_, (true), (by first | rfl | (simp; done) | (simp [*]; done)), H', ⟨by first | omega | exact Nat.le_refl _⟩, ⟨kZ HB⟩⟩
  ·replace c9 := Bool.eq_false_iff.mpr c9
   subst c9
   have H1 : (if (a1.size : Int) > 1000 then (cantonlaw11_OwnedOne.j0 k l0 a1 a2 a3 t444 true) else (if (a3.size : Int) > 1000 then (cantonlaw11_OwnedOne.j0 k l0 a1 a2 a3 t444 true) else ((cantonref11_Right.f k l0).bind fun t446 => (if t446 = true then ((cantonref01_Right.f k a3).bind fun t447 => (cantonlaw11_OwnedOne.j0 k l0 a1 a2 a3 t444 (!t447))) else (cantonlaw11_OwnedOne.j0 k l0 a1 a2 a3 t444 true))))) = some r := by rw [if_neg (show ¬ (false = true) by decide)] at H; exact H
   clear H
   have H := H1
   clear H1
   by_cases c11 : (a1.size : Int) > 1000
   ·rw [if_pos c11] at H
    have c11b0 : decide (1000 < (a1.size : Int)) = true := decide_eq_true c11
    have c11b1 : decide (1000 < a1.size) = true := decide_eq_true (by omega)
    clear c11
    (first | rw [c11b0] | (simp only [i64_w, i32_w]; rw [c11b0]) | skip)
    have H' := Aside0.mk H
    clear H
    go_wp2_with (first | ((with_reducible refine gate_callee (f := 10) rfl ?_); refine gL (some 19) Try.func10 #[.slice A0 l0.length c0] rfl rfl ?_; (with_reducible refine (cantonlaw11_Great.calls k _ _ l0 false _ ?side1 ?side2 A8.out).mono ?_); (case side1 => exact kC ((Kd.C_below HR0.out HB.out))); (case side2 => exact HC0.out); rintro e w12 ⟨rfl, hb⟩; refine ⟨_, rfl, ?_⟩; have n0_ := Aside0.mk (below_step (kZ HB) hb); clear HB; have HB := n0_; clear n0_; (try clear hb); (try clear hb2); (try clear hk); (try clear hi)))
    go_meet
    case rel => exact ⟨_, (true), (by first | rfl | (simp; done) | (simp [*]; done)), H', ⟨by first | omega | exact Nat.le_refl _⟩, ⟨kZ HB⟩⟩
   ·rw [if_neg c11] at H
    have c11b0 : decide (1000 < (a1.size : Int)) = false := decide_eq_false c11
    have c11b1 : decide (1000 < a1.size) = false := decide_eq_false (by omega)
    clear c11
    (first | rw [c11b0] | (simp only [i64_w, i32_w]; rw [c11b0]) | skip)
    by_cases c13 : (a3.size : Int) > 1000
    ·rw [if_pos c13] at H
     have c13b0 : decide (1000 < (a3.size : Int)) = true := decide_eq_true c13
     have c13b1 : decide (1000 < a3.size) = true := decide_eq_true (by omega)
     clear c13
     have H' := Aside0.mk H
     clear H
     go_wp2_with (first | ((with_reducible refine gate_callee (f := 10) rfl ?_); refine gL (some 19) Try.func10 #[.slice A0 l0.length c0] rfl rfl ?_; (with_reducible refine (cantonlaw11_Great.calls k _ _ l0 false _ ?side1 ?side2 A8.out).mono ?_); (case side1 => exact kC ((Kd.C_below HR0.out HB.out))); (case side2 => exact HC0.out); rintro e w14 ⟨rfl, hb⟩; refine ⟨_, rfl, ?_⟩; have n0_ := Aside0.mk (below_step (kZ HB) hb); clear HB; have HB := n0_; clear n0_; (try clear hb); (try clear hb2); (try clear hk); (try clear hi)))
     go_meet
     case rel => exact ⟨_, (true), (by first | rfl | (simp; done) | (simp [*]; done)), H', ⟨by first | omega | exact Nat.le_refl _⟩, ⟨kZ HB⟩⟩
    ·rw [if_neg c13] at H
     have c13b0 : decide (1000 < (a3.size : Int)) = false := decide_eq_false c13
     have c13b1 : decide (1000 < a3.size) = false := decide_eq_false (by omega)
     clear c13
     replace H := Option.bind_eq_some_iff.mp H
     obtain ⟨t446, A150, H⟩ := H
     replace H : (if t446 = true then ((cantonref01_Right.f k a3).bind fun t447 => (cantonlaw11_OwnedOne.j0 k l0 a1 a2 a3 t444 (!t447))) else (cantonlaw11_OwnedOne.j0 k l0 a1 a2 a3 t444 true)) = some r := H
     have A15 := Aside0.mk A150
     clear A150
     by_cases c16 : t446 = true
     ·subst c16
      have H1 : ((cantonref01_Right.f k a3).bind fun t447 => (cantonlaw11_OwnedOne.j0 k l0 a1 a2 a3 t444 (!t447))) = some r := by rw [if_pos rfl] at H; exact H
      clear H
      have H := H1
      clear H1
      replace H := Option.bind_eq_some_iff.mp H
      obtain ⟨t447, A170, H⟩ := H
      replace H : (cantonlaw11_OwnedOne.j0 k l0 a1 a2 a3 t444 (!t447)) = some r := H
      have A17 := Aside0.mk A170
      clear A170
      have H' := Aside0.mk H
      clear H
      go_wp2_with (first | ((with_reducible refine gate_callee (f := 10) rfl ?_); refine gL (some 19) Try.func10 #[.slice A0 l0.length c0] rfl rfl ?_; (with_reducible refine (cantonlaw11_Great.calls k _ _ l0 false _ ?side1 ?side2 A8.out).mono ?_); (case side1 => exact kC ((Kd.C_below HR0.out HB.out))); (case side2 => exact HC0.out); rintro e w18 ⟨rfl, hb⟩; refine ⟨_, rfl, ?_⟩; have n0_ := Aside0.mk (below_step (kZ HB) hb); clear HB; have HB := n0_; clear n0_; (try clear hb); (try clear hb2); (try clear hk); (try clear hi)) | (go_at_call 18; (with_reducible refine (cantonref11_Right.calls k _ _ l0 true _ ?side1 ?side2 A15.out).mono ?_); (case side1 => exact kC ((Kd.C_below HR0.out HB.out))); (case side2 => exact HC0.out); rintro e w19 ⟨rfl, hb⟩; have n0_ := Aside0.mk (below_step (kZ HB) hb); clear HB; have HB := n0_; clear n0_; (try clear hb); (try clear hb2); (try clear hk); (try clear hi)) | (go_at_call 29; (with_reducible refine (cantonref01_Right.calls k a3 t447 _ A17.out).mono ?_); rintro e w20 ⟨rfl, hb⟩; have n0_ := Aside0.mk (below_step (kZ HB) hb); clear HB; have HB := n0_; clear n0_; (try clear hb); (try clear hb2); (try clear hk); (try clear hi)))
      go_meet
      case rel => exact ⟨_, (!t447), (by first | rfl | (simp; done) | (simp [*]; done)), H', ⟨by first | omega | exact Nat.le_refl _⟩, ⟨kZ HB⟩⟩
     ·replace c16 := Bool.eq_false_iff.mpr c16
      subst c16
      have H1 : (cantonlaw11_OwnedOne.j0 k l0 a1 a2 a3 t444 true) = some r := by rw [if_neg (show ¬ (false = true) by decide)] at H; exact H
      clear H
      have H := H1
      clear H1
      have H' := Aside0.mk H
      clear H
      go_wp2_with (first | ((with_reducible refine gate_callee (f := 10) rfl ?_); refine gL (some 19) Try.func10 #[.slice A0 l0.length c0] rfl rfl ?_; (with_reducible refine (cantonlaw11_Great.calls k _ _ l0 false _ ?side1 ?side2 A8.out).mono ?_); (case side1 => exact kC ((Kd.C_below HR0.out HB.out))); (case side2 => exact HC0.out); rintro e w21 ⟨rfl, hb⟩; refine ⟨_, rfl, ?_⟩; have n0_ := Aside0.mk (below_step (kZ HB) hb); clear HB; have HB := n0_; clear n0_; (try clear hb); (try clear hb2); (try clear hk); (try clear hi)) | (go_at_call 18; (with_reducible refine (cantonref11_Right.calls k _ _ l0 false _ ?side1 ?side2 A15.out).mono ?_); (case side1 => exact kC ((Kd.C_below HR0.out HB.out))); (case side2 => exact HC0.out); rintro e w22 ⟨rfl, hb⟩; have n0_ := Aside0.mk (below_step (kZ HB) hb); clear HB; have HB := n0_; clear n0_; (try clear hb); (try clear hb2); (try clear hk); (try clear hi)))
      go_meet
      case rel => exact ⟨_, (true), (by first | rfl | (simp; done) | (simp [*]; done)), H', ⟨by first | omega | exact Nat.le_refl _⟩, ⟨kZ HB⟩⟩
 case rest =>
  clear HC6
  try clear c1
  try clear p2
  try clear c5
  try clear c9
  try clear c10
  try clear c11
  try clear c11b0
  try clear c11b1
  try clear c13
  try clear c13b0
  try clear c13b1
  try clear c16
  obtain ⟨kq, x39_5, rfl, HA, HJ5, HB⟩ := hcut
  cases kq with
  | zero => exact absurd HA.out (by simp [cantonlaw11_OwnedOne.j0])
  | succ kj5 =>
   have H := HA.out
   clear HA
   simp only [cantonlaw11_OwnedOne.j0] at H
   by_cases c23 : x39_5 = true
   ·subst c23
    have H1 : (some t444) = some r := by rw [if_pos rfl] at H; exact H
    clear H
    have H := H1
    clear H1
    obtain rfl := Option.some.inj H
    go_wp2
    go_ret
    exact ⟨by first | rfl | (simp [errW_none, errW_some] <;> rfl) | (simp [*, errW_none, errW_some] <;> rfl), kZ HB⟩
   ·replace c23 := Bool.eq_false_iff.mpr c23
    subst c23
    have H1 : ((owned_Install.f kj5 l0 a1 a2).bind fun bt448 => ((owned_Freeze.f kj5 l0 a1).bind fun bt452 => (cantonlaw11_OwnedOne.l0 kj5 l0 a1 a3 t444 bt448.1 bt448.2 bt452.1 bt452.2 false 0))) = some r := by rw [if_neg (show ¬ (false = true) by decide)] at H; exact H
    clear H
    have H := H1
    clear H1
    replace H := Option.bind_eq_some_iff.mp H
    obtain ⟨⟨t448, t449⟩, A240, H⟩ := H
    replace H : ((owned_Freeze.f kj5 l0 a1).bind fun bt452 => (cantonlaw11_OwnedOne.l0 kj5 l0 a1 a3 t444 t448 t449 bt452.1 bt452.2 false 0)) = some r := H
    have A24 := Aside0.mk A240
    clear A240
    replace H := Option.bind_eq_some_iff.mp H
    obtain ⟨⟨t452, t453⟩, A250, H⟩ := H
    replace H : (cantonlaw11_OwnedOne.l0 kj5 l0 a1 a3 t444 t448 t449 t452 t453 false 0) = some r := H
    have A25 := Aside0.mk A250
    clear A250
    have H' := Aside0.mk H
    clear H
    go_wp2_with (first | ((with_reducible refine gate_callee (f := 13) rfl ?_); refine gL (some 45) Try.func13 #[.slice A0 l0.length c0, .string a1, .int .i64 a2] rfl rfl ?_; (with_reducible refine (owned_Install.calls kj5 _ _ l0 a1 a2 t448 t449 _ ?side1 ?side2 A24.out).mono ?_); (case side1 => exact kC ((Kd.C_below HR0.out HB.out))); (case side2 => exact HC0.out); rintro e w26 ⟨v450, rfl, ho0, hb⟩; refine ⟨_, rfl, ?_⟩; have n0_ := Aside0.mk (Kd.R_lower ho0 (below_size (kZ HB))); have n1_ := Aside0.mk (below_step (kZ HB) hb); clear HB; have HO451 := n0_; have HB := n1_; clear n0_ n1_; (try clear hb); (try clear hb2); (try clear hk); (try clear hi); (try clear ho0)) | ((with_reducible refine gate_callee (f := 11) rfl ?_); refine gL (some 51) Try.func11 #[.slice A0 l0.length c0, .string a1] rfl rfl ?_; (with_reducible refine (owned_Freeze.calls kj5 _ _ l0 a1 t452 t453 _ ?side1 ?side2 A25.out).mono ?_); (case side1 => exact kC ((Kd.C_below HR0.out HB.out))); (case side2 => exact HC0.out); rintro e w27 ⟨v454, rfl, ho0, hb⟩; refine ⟨_, rfl, ?_⟩; have n0_ := Aside0.mk (Kd.R_elder' (kR HO451) (Kd.R_base ho0) hb); have n1_ := Aside0.mk (Kd.R_lower (Kd.R_new' ho0 (Kd.R_lt (kR HO451))) (below_size (kZ HB))); have n2_ := Aside0.mk (below_step (kZ HB) hb); clear HO451; clear HB; have HO451 := n0_; have HO455 := n1_; have HB := n2_; clear n0_ n1_ n2_; (try clear hb); (try clear hb2); (try clear hk); (try clear hi); (try clear ho0)))
    go_loopg [14, 15] kj5 (fun kq v14 v15 w' => ∃ (x14_2 : Bool) (x15_2 : Int), v14 = .bool x14_2 ∧ v15 = .int .i64 x15_2 ∧ Aside0 (cantonlaw11_OwnedOne.l0 kq l0 a1 a3 t444 t448 t449 t452 t453 x14_2 x15_2 = some r) ∧ Aside0 (kq ≤ kj5) ∧ Aside0 (Kd.R k45 45 w' w.heap.size (fun k_ => some k_ ≠ (v454 : Value).ownBlock) v450 t448) ∧ Aside0 (Kd.R k45 45 w' w.heap.size (fun k_ => some k_ ≠ (v450 : Value).ownBlock) v454 t452) ∧ Aside0 (Below w.heap.size w w'))
    case atStart => exact ⟨(false), (0), (by first | rfl | (simp; done) | (simp [*]; done)), (by first | rfl | (simp; done) | (simp [*]; done)), H', ⟨Nat.le_refl _⟩, ⟨by (with_reducible repeat (first | apply Kd.R_alloc | apply Kd.R_drewN | apply Kd.R_drew)); exact Kd.R_mono HO451.out (fun _ hk => hk.2)⟩, ⟨by (with_reducible repeat (first | apply Kd.R_alloc | apply Kd.R_drewN | apply Kd.R_drew)); exact Kd.R_mono HO455.out (fun _ hk => hk.2)⟩, ⟨kZ HB⟩⟩
    case round =>
     clear H'
     try clear c1
     try clear c2
     try clear p2
     try clear c5
     try clear c9
     try clear c10
     try clear c11
     try clear c11b0
     try clear c11b1
     try clear c13
     try clear c13b0
     try clear c13b1
     try clear c16
     try clear c23
     try clear p2
     obtain ⟨x14_2, x15_2, rfl, rfl, HA, HK2, HO_10, HO_12, HB⟩ := hrel
     cases gk with
     | zero => exact absurd HA.out (by simp [cantonlaw11_OwnedOne.l0])
     | succ k2 =>
      have H := HA.out
      clear HA
      simp only [cantonlaw11_OwnedOne.l0] at H
      by_cases c28 : x15_2 < (l0.length : Int)
      ·rw [if_pos c28] at H
       have c28b0 : decide (x15_2 < (l0.length : Int)) = true := decide_eq_true c28
       clear c28
       by_cases c29 : x14_2 = true
       ·subst c29
        have H1 : (cantonlaw11_OwnedOne.l0 k2 l0 a1 a3 t444 t448 t449 t452 t453 true (wrap64 (x15_2 + 1))) = some r := by rw [if_pos rfl] at H; exact H
        clear H
        have H := H1
        clear H1
        have H' := Aside0.mk H
        clear H
        go_wp2
        go_roundg k2
        case measure => have := HJ5.out; have := HK2.out; omega
        case rel => exact ⟨(true), (wrap64 (x15_2 + 1)), (by first | rfl | (simp; done) | (simp [*]; done)), (by first | rfl | (simp; done) | (simp [*]; done)), H', ⟨by have := HJ5.out; have := HK2.out; omega⟩, ⟨by (with_reducible repeat (first | apply Kd.R_alloc | apply Kd.R_drewN | apply Kd.R_drew)); exact HO_10.out⟩, ⟨by (with_reducible repeat (first | apply Kd.R_alloc | apply Kd.R_drewN | apply Kd.R_drew)); exact HO_12.out⟩, ⟨kZ HB⟩⟩
       ·replace c29 := Bool.eq_false_iff.mpr c29
        subst c29
        have H1 : (if 0 ≤ x15_2 then ((cantonref01_In.f k2 a3 ((rd_T45 l0 x15_2).f0)).bind fun t457 => (if t457 = true then (cantonlaw11_OwnedOne.l0 k2 l0 a1 a3 t444 t448 t449 t452 t453 (decide ((((rd_T45 l0 x15_2).f0).size : Int) > (a1.size : Int))) (wrap64 (x15_2 + 1))) else (cantonlaw11_OwnedOne.l0 k2 l0 a1 a3 t444 t448 t449 t452 t453 false (wrap64 (x15_2 + 1))))) else (none)) = some r := by rw [if_neg (show ¬ (false = true) by decide)] at H; exact H
        clear H
        have H := H1
        clear H1
        by_cases c30 : 0 ≤ x15_2
        ·rw [if_pos c30] at H
         have c30b0 : decide (0 ≤ x15_2) = true := decide_eq_true c30
         clear c30
         replace H := Option.bind_eq_some_iff.mp H
         obtain ⟨t457, A310, H⟩ := H
         replace H : (if t457 = true then (cantonlaw11_OwnedOne.l0 k2 l0 a1 a3 t444 t448 t449 t452 t453 (decide ((((rd_T45 l0 x15_2).f0).size : Int) > (a1.size : Int))) (wrap64 (x15_2 + 1))) else (cantonlaw11_OwnedOne.l0 k2 l0 a1 a3 t444 t448 t449 t452 t453 false (wrap64 (x15_2 + 1)))) = some r := H
         have A31 := Aside0.mk A310
         clear A310
         by_cases c32 : t457 = true
         ·subst c32
          have H1 : (cantonlaw11_OwnedOne.l0 k2 l0 a1 a3 t444 t448 t449 t452 t453 (decide ((((rd_T45 l0 x15_2).f0).size : Int) > (a1.size : Int))) (wrap64 (x15_2 + 1))) = some r := by rw [if_pos rfl] at H; exact H
          clear H
          have H := H1
          clear H1
          have H' := Aside0.mk H
          clear H
          have p456 : 0 ≤ (x15_2 : Int) := of_decide_eq_true (by first | (with_reducible assumption) | assumption)
          have q456 : x15_2 < (l0.length : Int) := of_decide_eq_true (by first | (with_reducible assumption) | assumption)
          obtain ⟨ad456, e456, hx456_0, hx456_1, hx456_2⟩ := at_T45 HR0.out x15_2 p456 q456
          cases e456
          replace hx456_0 := (HB.out.cell (World.block_lt_of_cell? w _ hx456_0)).trans hx456_0
          replace hx456_1 := (HB.out.cell (World.block_lt_of_cell? w _ hx456_1)).trans hx456_1
          replace hx456_2 := (HB.out.cell (World.block_lt_of_cell? w _ hx456_2)).trans hx456_2
          replace p456 := eq_true p456
          replace q456 := eq_true q456
          go_wp2_with (first | (go_at_call 30; (with_reducible refine (cantonref01_In.calls k2 a3 ((rd_T45 l0 x15_2).f0) true _ A31.out).mono ?_); rintro e w33 ⟨rfl, hb⟩; have n0_ := Aside0.mk (Kd.R_below (kR HO_10) hb); have n1_ := Aside0.mk (Kd.R_below (kR HO_12) hb); have n2_ := Aside0.mk (below_step (kZ HB) hb); clear HO_10; clear HO_12; clear HB; have HO_10 := n0_; have HO_12 := n1_; have HB := n2_; clear n0_ n1_ n2_; (try clear hb); (try clear hb2); (try clear hk); (try clear hi); have p458 : 0 ≤ (x15_2 : Int) := of_decide_eq_true (by first | (with_reducible assumption) | assumption); have q458 : x15_2 < (l0.length : Int) := of_decide_eq_true (by first | (with_reducible assumption) | assumption); obtain ⟨ad458, e458, hx458_0, hx458_1, hx458_2⟩ := at_T45 HR0.out x15_2 p458 q458; obtain rfl : ad456 = ad458 := (by injection e458); replace hx458_0 := (HB.out.cell (World.block_lt_of_cell? w _ hx458_0)).trans hx458_0; replace hx458_1 := (HB.out.cell (World.block_lt_of_cell? w _ hx458_1)).trans hx458_1; replace hx458_2 := (HB.out.cell (World.block_lt_of_cell? w _ hx458_2)).trans hx458_2; replace p458 := eq_true p458; replace q458 := eq_true q458))
          go_roundg k2
          case measure => have := HJ5.out; have := HK2.out; omega
          case rel => exact ⟨(decide ((((rd_T45 l0 x15_2).f0).size : Int) > (a1.size : Int))), (wrap64 (x15_2 + 1)), (by first | rfl | (simp; done) | (simp [*]; done)), (by first | rfl | (simp; done) | (simp [*]; done)), H', ⟨by have := HJ5.out; have := HK2.out; omega⟩, ⟨by (with_reducible repeat (first | apply Kd.R_alloc | apply Kd.R_drewN | apply Kd.R_drew)); exact HO_10.out⟩, ⟨by (with_reducible repeat (first | apply Kd.R_alloc | apply Kd.R_drewN | apply Kd.R_drew)); exact HO_12.out⟩, ⟨kZ HB⟩⟩
         ·replace c32 := Bool.eq_false_iff.mpr c32
          subst c32
          have H1 : (cantonlaw11_OwnedOne.l0 k2 l0 a1 a3 t444 t448 t449 t452 t453 false (wrap64 (x15_2 + 1))) = some r := by rw [if_neg (show ¬ (false = true) by decide)] at H; exact H
          clear H
          have H := H1
          clear H1
          have H' := Aside0.mk H
          clear H
          have p456 : 0 ≤ (x15_2 : Int) := of_decide_eq_true (by first | (with_reducible assumption) | assumption)
          have q456 : x15_2 < (l0.length : Int) := of_decide_eq_true (by first | (with_reducible assumption) | assumption)
          obtain ⟨ad456, e456, hx456_0, hx456_1, hx456_2⟩ := at_T45 HR0.out x15_2 p456 q456
          cases e456
          replace hx456_0 := (HB.out.cell (World.block_lt_of_cell? w _ hx456_0)).trans hx456_0
          replace hx456_1 := (HB.out.cell (World.block_lt_of_cell? w _ hx456_1)).trans hx456_1
          replace hx456_2 := (HB.out.cell (World.block_lt_of_cell? w _ hx456_2)).trans hx456_2
          replace p456 := eq_true p456
          replace q456 := eq_true q456
          go_wp2_with (first | (go_at_call 30; (with_reducible refine (cantonref01_In.calls k2 a3 ((rd_T45 l0 x15_2).f0) false _ A31.out).mono ?_); rintro e w34 ⟨rfl, hb⟩; have n0_ := Aside0.mk (Kd.R_below (kR HO_10) hb); have n1_ := Aside0.mk (Kd.R_below (kR HO_12) hb); have n2_ := Aside0.mk (below_step (kZ HB) hb); clear HO_10; clear HO_12; clear HB; have HO_10 := n0_; have HO_12 := n1_; have HB := n2_; clear n0_ n1_ n2_; (try clear hb); (try clear hb2); (try clear hk); (try clear hi)))
          go_roundg k2
          case measure => have := HJ5.out; have := HK2.out; omega
          case rel => exact ⟨(false), (wrap64 (x15_2 + 1)), (by first | rfl | (simp; done) | (simp [*]; done)), (by first | rfl | (simp; done) | (simp [*]; done)), H', ⟨by have := HJ5.out; have := HK2.out; omega⟩, ⟨by (with_reducible repeat (first | apply Kd.R_alloc | apply Kd.R_drewN | apply Kd.R_drew)); exact HO_10.out⟩, ⟨by (with_reducible repeat (first | apply Kd.R_alloc | apply Kd.R_drewN | apply Kd.R_drew)); exact HO_12.out⟩, ⟨kZ HB⟩⟩
        ·rw [if_neg c30] at H
         exact absurd H (by simp)
      ·rw [if_neg c28] at H
       have c28b0 : decide (x15_2 < (l0.length : Int)) = false := decide_eq_false c28
       clear c28
       have HC35 := Aside0.mk H
       clear H
       go_upto_region 11 with (fail)
       go_cut [16] (fun v16 wc => ∃ (kq : Nat) (x16_34 : Bool), v16 = .bool x16_34 ∧ Aside0 (cantonlaw11_OwnedOne.j2 kq l0 a1 a3 t444 t448 t449 t452 t453 x16_34 = some r) ∧ Aside0 (kq ≤ k2) ∧ Aside0 (Kd.R k45 45 wc w.heap.size (fun k_ => some k_ ≠ (v454 : Value).ownBlock) v450 t448) ∧ Aside0 (Kd.R k45 45 wc w.heap.size (fun k_ => some k_ ≠ (v450 : Value).ownBlock) v454 t452) ∧ Aside0 (Below w.heap.size w wc))
       case first =>
        have H := HC35.out
        clear HC35
        replace H := Option.bind_eq_some_iff.mp H
        obtain ⟨t459, A360, H⟩ := H
        replace H : (if t459 = true then (cantonlaw11_OwnedOne.j2 k2 l0 a1 a3 t444 t448 t449 t452 t453 (!x14_2)) else (cantonlaw11_OwnedOne.j2 k2 l0 a1 a3 t444 t448 t449 t452 t453 false)) = some r := H
        have A36 := Aside0.mk A360
        clear A360
        by_cases c37 : t459 = true
        ·subst c37
         have H1 : (cantonlaw11_OwnedOne.j2 k2 l0 a1 a3 t444 t448 t449 t452 t453 (!x14_2)) = some r := by rw [if_pos rfl] at H; exact H
         clear H
         have H := H1
         clear H1
         have H' := Aside0.mk H
         clear H
         go_wp2_with (first | ((with_reducible refine gate_callee (f := 30) rfl ?_); refine gL (some 83) Try.func30 #[.string a3, .string a1] rfl rfl ?_; (with_reducible refine (cantonref01_In.calls k2 a3 a1 true _ A36.out).mono ?_); rintro e w38 ⟨rfl, hb⟩; refine ⟨_, rfl, ?_⟩; have n0_ := Aside0.mk (Kd.R_below (kR HO_10) hb); have n1_ := Aside0.mk (Kd.R_below (kR HO_12) hb); have n2_ := Aside0.mk (below_step (kZ HB) hb); clear HO_10; clear HO_12; clear HB; have HO_10 := n0_; have HO_12 := n1_; have HB := n2_; clear n0_ n1_ n2_; (try clear hb); (try clear hb2); (try clear hk); (try clear hi)))
         go_meet
         case rel => exact ⟨_, (!x14_2), (by first | rfl | (simp; done) | (simp [*]; done)), H', ⟨by have := HJ5.out; have := HK2.out; first | omega | exact Nat.le_refl _⟩, ⟨by (with_reducible repeat (first | apply Kd.R_alloc | apply Kd.R_drewN | apply Kd.R_drew)); exact HO_10.out⟩, ⟨by (with_reducible repeat (first | apply Kd.R_alloc | apply Kd.R_drewN | apply Kd.R_drew)); exact HO_12.out⟩, ⟨kZ HB⟩⟩
        ·replace c37 := Bool.eq_false_iff.mpr c37
         subst c37
         have H1 : (cantonlaw11_OwnedOne.j2 k2 l0 a1 a3 t444 t448 t449 t452 t453 false) = some r := by rw [if_neg (show ¬ (false = true) by decide)] at H; exact H
         clear H
         have H := H1
         clear H1
         have H' := Aside0.mk H
         clear H
         go_wp2_with (first | ((with_reducible refine gate_callee (f := 30) rfl ?_); refine gL (some 83) Try.func30 #[.string a3, .string a1] rfl rfl ?_; (with_reducible refine (cantonref01_In.calls k2 a3 a1 false _ A36.out).mono ?_); rintro e w39 ⟨rfl, hb⟩; refine ⟨_, rfl, ?_⟩; have n0_ := Aside0.mk (Kd.R_below (kR HO_10) hb); have n1_ := Aside0.mk (Kd.R_below (kR HO_12) hb); have n2_ := Aside0.mk (below_step (kZ HB) hb); clear HO_10; clear HO_12; clear HB; have HO_10 := n0_; have HO_12 := n1_; have HB := n2_; clear n0_ n1_ n2_; (try clear hb); (try clear hb2); (try clear hk); (try clear hi)))
         go_meet
         case rel => exact ⟨_, (false), (by first | rfl | (simp; done) | (simp [*]; done)), H', ⟨by have := HJ5.out; have := HK2.out; first | omega | exact Nat.le_refl _⟩, ⟨by (with_reducible repeat (first | apply Kd.R_alloc | apply Kd.R_drewN | apply Kd.R_drew)); exact HO_10.out⟩, ⟨by (with_reducible repeat (first | apply Kd.R_alloc | apply Kd.R_drewN | apply Kd.R_drew)); exact HO_12.out⟩, ⟨kZ HB⟩⟩
       case rest =>
        clear HC35
        try clear c1
        try clear c2
        try clear p2
        try clear c3
        try clear p4
        try clear q4
        try clear hx4
        try clear c5
        try clear p6
        try clear c9
        try clear c10
        try clear c11
        try clear c11b0
        try clear c11b1
        try clear c13
        try clear c13b0
        try clear c13b1
        try clear c16
        try clear c23
        try clear c28
        try clear c28b0
        try clear c29
        try clear c30
        try clear c30b0
        try clear c32
        try clear c37
        try clear hx456_0
        try clear hx456_1
        try clear hx456_2
        try clear hx458_0
        try clear hx458_1
        try clear hx458_2
        try clear p2
        try clear p456
        try clear p458
        try clear q456
        try clear q458
        obtain ⟨kq, x16_34, rfl, HA, HJ34, HO_10, HO_12, HB⟩ := hcut
        cases kq with
        | zero => exact absurd HA.out (by simp [cantonlaw11_OwnedOne.j2])
        | succ kj34 =>
         have H := HA.out
         clear HA
         simp only [cantonlaw11_OwnedOne.j2] at H
         have HC40 := Aside0.mk H
         clear H
         go_upto_region 12 with (fail)
         go_cut [113] (fun v113 wc => ∃ (kq : Nat) (x113_39 : Bool), v113 = .bool x113_39 ∧ Aside0 (cantonlaw11_OwnedOne.j3 kq l0 a1 a3 t444 t448 t449 t452 t453 x16_34 x113_39 = some r) ∧ Aside0 (kq ≤ kj34) ∧ Aside0 (Kd.R k45 45 wc w.heap.size (fun k_ => some k_ ≠ (v454 : Value).ownBlock) v450 t448) ∧ Aside0 (Kd.R k45 45 wc w.heap.size (fun k_ => some k_ ≠ (v450 : Value).ownBlock) v454 t452) ∧ Aside0 (Below w.heap.size w wc))
         case first =>
          have H := HC40.out
          clear HC40
          by_cases c41 : t449 = true
          ·subst c41
           have H1 : (if x16_34 = true then ((owned_State.f kj34 t448 a3).bind fun t460 => (if t460 = 1 then (cantonlaw11_OwnedOne.j3 kj34 l0 a1 a3 t444 t448 true t452 t453 x16_34 false) else (cantonlaw11_OwnedOne.j3 kj34 l0 a1 a3 t444 t448 true t452 t453 x16_34 true))) else ((owned_State.f kj34 t448 a3).bind fun t461 => ((owned_State.f kj34 l0 a3).bind fun t462 => (cantonlaw11_OwnedOne.j3 kj34 l0 a1 a3 t444 t448 true t452 t453 x16_34 (t461 != t462))))) = some r := by rw [if_pos rfl] at H; exact H
           clear H
           have H := H1
           clear H1
           by_cases c42 : x16_34 = true
           ·subst c42
            have H1 : ((owned_State.f kj34 t448 a3).bind fun t460 => (if t460 = 1 then (cantonlaw11_OwnedOne.j3 kj34 l0 a1 a3 t444 t448 true t452 t453 true false) else (cantonlaw11_OwnedOne.j3 kj34 l0 a1 a3 t444 t448 true t452 t453 true true))) = some r := by rw [if_pos rfl] at H; exact H
            clear H
            have H := H1
            clear H1
            replace H := Option.bind_eq_some_iff.mp H
            obtain ⟨t460, A430, H⟩ := H
            replace H : (if t460 = 1 then (cantonlaw11_OwnedOne.j3 kj34 l0 a1 a3 t444 t448 true t452 t453 true false) else (cantonlaw11_OwnedOne.j3 kj34 l0 a1 a3 t444 t448 true t452 t453 true true)) = some r := H
            have A43 := Aside0.mk A430
            clear A430
            by_cases c44 : t460 = 1
            ·rw [if_pos c44] at H
             have c44b0 : (t460 == 1) = true := beq_iff_eq.mpr c44
             have c44b1 : (t460 != 1) = false := bne_eq_false_iff_eq.mpr c44
             clear c44
             (first | rw [c44b0] | (simp only [i64_w, i32_w]; rw [c44b0]) | skip)
             have H' := Aside0.mk H
             clear H
             obtain ⟨Ao45, co45, eo45⟩ := Kd.R_slice HO_10.out
             subst eo45
             go_wp2_with (first | (go_at_call 21; (with_reducible refine (owned_State.calls kj34 _ _ t448 a3 t460 _ ?side1 ?side2 A43.out).mono ?_); (case side1 => exact kC ((Kd.R_reads' HO_10.out).2.2)); (case side2 => exact (Kd.R_reads' HO_10.out).2.1); rintro e w46 ⟨rfl, hb⟩; have n0_ := Aside0.mk (Kd.R_below (kR HO_10) hb); have n1_ := Aside0.mk (Kd.R_below (kR HO_12) hb); have n2_ := Aside0.mk (below_step (kZ HB) hb); clear HO_10; clear HO_12; clear HB; have HO_10 := n0_; have HO_12 := n1_; have HB := n2_; clear n0_ n1_ n2_; (try clear hb); (try clear hb2); (try clear hk); (try clear hi)))
             go_meet
             case rel => exact ⟨_, (false), (by first | rfl | (simp; done) | (simp [*]; done)), H', ⟨by have := HJ5.out; have := HK2.out; have := HJ34.out; first | omega | exact Nat.le_refl _⟩, ⟨by (with_reducible repeat (first | apply Kd.R_alloc | apply Kd.R_drewN | apply Kd.R_drew)); exact HO_10.out⟩, ⟨by (with_reducible repeat (first | apply Kd.R_alloc | apply Kd.R_drewN | apply Kd.R_drew)); exact HO_12.out⟩, ⟨kZ HB⟩⟩
            ·rw [if_neg c44] at H
             have c44b0 : (t460 == 1) = false := beq_eq_false_iff_ne.mpr c44
             have c44b1 : (t460 != 1) = true := bne_iff_ne.mpr c44
             (first | rw [c44b0] | (simp only [i64_w, i32_w]; rw [c44b0]) | skip)
             have H' := Aside0.mk H
             clear H
             obtain ⟨Ao47, co47, eo47⟩ := Kd.R_slice HO_10.out
             subst eo47
             go_wp2_with (first | (go_at_call 21; (with_reducible refine (owned_State.calls kj34 _ _ t448 a3 t460 _ ?side1 ?side2 A43.out).mono ?_); (case side1 => exact kC ((Kd.R_reads' HO_10.out).2.2)); (case side2 => exact (Kd.R_reads' HO_10.out).2.1); rintro e w48 ⟨rfl, hb⟩; have n0_ := Aside0.mk (Kd.R_below (kR HO_10) hb); have n1_ := Aside0.mk (Kd.R_below (kR HO_12) hb); have n2_ := Aside0.mk (below_step (kZ HB) hb); clear HO_10; clear HO_12; clear HB; have HO_10 := n0_; have HO_12 := n1_; have HB := n2_; clear n0_ n1_ n2_; (try clear hb); (try clear hb2); (try clear hk); (try clear hi)))
             go_meet
             case rel => exact ⟨_, (true), (by first | rfl | (simp; done) | (simp [*]; done)), H', ⟨by have := HJ5.out; have := HK2.out; have := HJ34.out; first | omega | exact Nat.le_refl _⟩, ⟨by (with_reducible repeat (first | apply Kd.R_alloc | apply Kd.R_drewN | apply Kd.R_drew)); exact HO_10.out⟩, ⟨by (with_reducible repeat (first | apply Kd.R_alloc | apply Kd.R_drewN | apply Kd.R_drew)); exact HO_12.out⟩, ⟨kZ HB⟩⟩
           ·replace c42 := Bool.eq_false_iff.mpr c42
            subst c42
            have H1 : ((owned_State.f kj34 t448 a3).bind fun t461 => ((owned_State.f kj34 l0 a3).bind fun t462 => (cantonlaw11_OwnedOne.j3 kj34 l0 a1 a3 t444 t448 true t452 t453 false (t461 != t462)))) = some r := by rw [if_neg (show ¬ (false = true) by decide)] at H; exact H
            clear H
            have H := H1
            clear H1
            replace H := Option.bind_eq_some_iff.mp H
            obtain ⟨t461, A490, H⟩ := H
            replace H : ((owned_State.f kj34 l0 a3).bind fun t462 => (cantonlaw11_OwnedOne.j3 kj34 l0 a1 a3 t444 t448 true t452 t453 false (t461 != t462))) = some r := H
            have A49 := Aside0.mk A490
            clear A490
            replace H := Option.bind_eq_some_iff.mp H
            obtain ⟨t462, A500, H⟩ := H
            replace H : (cantonlaw11_OwnedOne.j3 kj34 l0 a1 a3 t444 t448 true t452 t453 false (t461 != t462)) = some r := H
            have A50 := Aside0.mk A500
            clear A500
            have H' := Aside0.mk H
            clear H
            obtain ⟨Ao51, co51, eo51⟩ := Kd.R_slice HO_10.out
            subst eo51
            go_wp2_with (first | (go_at_call 21; (with_reducible refine (owned_State.calls kj34 _ _ t448 a3 t461 _ ?side1 ?side2 A49.out).mono ?_); (case side1 => exact kC ((Kd.R_reads' HO_10.out).2.2)); (case side2 => exact (Kd.R_reads' HO_10.out).2.1); rintro e w52 ⟨rfl, hb⟩; have n0_ := Aside0.mk (Kd.R_below (kR HO_10) hb); have n1_ := Aside0.mk (Kd.R_below (kR HO_12) hb); have n2_ := Aside0.mk (below_step (kZ HB) hb); clear HO_10; clear HO_12; clear HB; have HO_10 := n0_; have HO_12 := n1_; have HB := n2_; clear n0_ n1_ n2_; (try clear hb); (try clear hb2); (try clear hk); (try clear hi)) | (go_at_call 21; (with_reducible refine (owned_State.calls kj34 _ _ l0 a3 t462 _ ?side1 ?side2 A50.out).mono ?_); (case side1 => exact kC ((Kd.C_below HR0.out HB.out))); (case side2 => exact HC0.out); rintro e w53 ⟨rfl, hb⟩; have n0_ := Aside0.mk (Kd.R_below (kR HO_10) hb); have n1_ := Aside0.mk (Kd.R_below (kR HO_12) hb); have n2_ := Aside0.mk (below_step (kZ HB) hb); clear HO_10; clear HO_12; clear HB; have HO_10 := n0_; have HO_12 := n1_; have HB := n2_; clear n0_ n1_ n2_; (try clear hb); (try clear hb2); (try clear hk); (try clear hi)))
            go_meet
            case rel => exact ⟨_, ((t461 != t462)), (by first | rfl | (simp; done) | (simp [*]; done)), H', ⟨by have := HJ5.out; have := HK2.out; have := HJ34.out; first | omega | exact Nat.le_refl _⟩, ⟨by (with_reducible repeat (first | apply Kd.R_alloc | apply Kd.R_drewN | apply Kd.R_drew)); exact HO_10.out⟩, ⟨by (with_reducible repeat (first | apply Kd.R_alloc | apply Kd.R_drewN | apply Kd.R_drew)); exact HO_12.out⟩, ⟨kZ HB⟩⟩
          ·replace c41 := Bool.eq_false_iff.mpr c41
           subst c41
           have H1 : (cantonlaw11_OwnedOne.j3 kj34 l0 a1 a3 t444 t448 false t452 t453 x16_34 false) = some r := by rw [if_neg (show ¬ (false = true) by decide)] at H; exact H
           clear H
           have H := H1
           clear H1
           have H' := Aside0.mk H
           clear H
           go_wp2
           go_meet
           case rel => exact ⟨_, (false), (by first | rfl | (simp; done) | (simp [*]; done)), H', ⟨by have := HJ5.out; have := HK2.out; have := HJ34.out; first | omega | exact Nat.le_refl _⟩, ⟨by (with_reducible repeat (first | apply Kd.R_alloc | apply Kd.R_drewN | apply Kd.R_drew)); exact HO_10.out⟩, ⟨by (with_reducible repeat (first | apply Kd.R_alloc | apply Kd.R_drewN | apply Kd.R_drew)); exact HO_12.out⟩, ⟨kZ HB⟩⟩
         case rest =>
          clear HC40
          try clear c1
          try clear c2
          try clear p2
          try clear c3
          try clear c4
          try clear p4
          try clear q4
          try clear hx4
          try clear c5
          try clear p6
          try clear c9
          try clear c10
          try clear c11
          try clear c11b0
          try clear c11b1
          try clear c13
          try clear c13b0
          try clear c13b1
          try clear c16
          try clear c23
          try clear c28
          try clear c28b0
          try clear c29
          try clear c30
          try clear c30b0
          try clear c32
          try clear c37
          try clear c41
          try clear c42
          try clear c44
          try clear c44b0
          try clear c44b1
          try clear p45
          try clear q45
          try clear hx45
          try clear hx456_0
          try clear hx456_1
          try clear hx456_2
          try clear hx458_0
          try clear hx458_1
          try clear hx458_2
          try clear p2
          try clear p4
          try clear p456
          try clear p458
          try clear p6
          try clear q4
          try clear q456
          try clear q458
          obtain ⟨kq, x113_39, rfl, HA, HJ39, HO_10, HO_12, HB⟩ := hcut
          cases kq with
          | zero => exact absurd HA.out (by simp [cantonlaw11_OwnedOne.j3])
          | succ kj39 =>
           have H := HA.out
           clear HA
           simp only [cantonlaw11_OwnedOne.j3] at H
           by_cases c54 : x113_39 = true
           ·subst c54
            have H1 : (some false) = some r := by rw [if_pos rfl] at H; exact H
            clear H
            have H := H1
            clear H1
            obtain rfl := Option.some.inj H
            go_wp2
            go_ret
            exact ⟨by first | rfl | (simp [errW_none, errW_some] <;> rfl) | (simp [*, errW_none, errW_some] <;> rfl), kZ HB⟩
           ·replace c54 := Bool.eq_false_iff.mpr c54
            subst c54
            have H1 : (if t453 = true then (if x16_34 = true then ((owned_State.f kj39 t452 a3).bind fun t463 => (if t463 = 2 then (cantonlaw11_OwnedOne.j4 kj39 l0 a1 t444 t448 t449 t452 t453 false) else (cantonlaw11_OwnedOne.j4 kj39 l0 a1 t444 t448 t449 t452 t453 true))) else ((owned_State.f kj39 t452 a3).bind fun t464 => ((owned_State.f kj39 l0 a3).bind fun t465 => (cantonlaw11_OwnedOne.j4 kj39 l0 a1 t444 t448 t449 t452 t453 (t464 != t465))))) else (cantonlaw11_OwnedOne.j4 kj39 l0 a1 t444 t448 t449 t452 t453 false)) = some r := by rw [if_neg (show ¬ (false = true) by decide)] at H; exact H
            clear H
            have H := H1
            clear H1
            have HC55 := Aside0.mk H
            clear H
            go_upto_region 14 with (fail)
            go_cut [139] (fun v139 wc => ∃ (kq : Nat) (x139_54 : Bool), v139 = .bool x139_54 ∧ Aside0 (cantonlaw11_OwnedOne.j4 kq l0 a1 t444 t448 t449 t452 t453 x139_54 = some r) ∧ Aside0 (kq ≤ kj39) ∧ Aside0 (Kd.R k45 45 wc w.heap.size (fun k_ => some k_ ≠ (v454 : Value).ownBlock) v450 t448) ∧ Aside0 (Kd.R k45 45 wc w.heap.size (fun k_ => some k_ ≠ (v450 : Value).ownBlock) v454 t452) ∧ Aside0 (Below w.heap.size w wc))
            case first =>
             have H := HC55.out
             clear HC55
             by_cases c56 : t453 = true
             ·subst c56
              have H1 : (if x16_34 = true then ((owned_State.f kj39 t452 a3).bind fun t463 => (if t463 = 2 then (cantonlaw11_OwnedOne.j4 kj39 l0 a1 t444 t448 t449 t452 true false) else (cantonlaw11_OwnedOne.j4 kj39 l0 a1 t444 t448 t449 t452 true true))) else ((owned_State.f kj39 t452 a3).bind fun t464 => ((owned_State.f kj39 l0 a3).bind fun t465 => (cantonlaw11_OwnedOne.j4 kj39 l0 a1 t444 t448 t449 t452 true (t464 != t465))))) = some r := by rw [if_pos rfl] at H; exact H
              clear H
              have H := H1
              clear H1
              by_cases c57 : x16_34 = true
              ·subst c57
               have H1 : ((owned_State.f kj39 t452 a3).bind fun t463 => (if t463 = 2 then (cantonlaw11_OwnedOne.j4 kj39 l0 a1 t444 t448 t449 t452 true false) else (cantonlaw11_OwnedOne.j4 kj39 l0 a1 t444 t448 t449 t452 true true))) = some r := by rw [if_pos rfl] at H; exact H
               clear H
               have H := H1
               clear H1
               replace H := Option.bind_eq_some_iff.mp H
               obtain ⟨t463, A580, H⟩ := H
               replace H : (if t463 = 2 then (cantonlaw11_OwnedOne.j4 kj39 l0 a1 t444 t448 t449 t452 true false) else (cantonlaw11_OwnedOne.j4 kj39 l0 a1 t444 t448 t449 t452 true true)) = some r := H
               have A58 := Aside0.mk A580
               clear A580
               by_cases c59 : t463 = 2
               ·rw [if_pos c59] at H
                have c59b0 : (t463 == 2) = true := beq_iff_eq.mpr c59
                have c59b1 : (t463 != 2) = false := bne_eq_false_iff_eq.mpr c59
                clear c59
                (first | rw [c59b0] | (simp only [i64_w, i32_w]; rw [c59b0]) | skip)
                have H' := Aside0.mk H
                clear H
                obtain ⟨Ao60, co60, eo60⟩ := Kd.R_slice HO_12.out
                subst eo60
                go_wp2_with (first | (go_at_call 21; (with_reducible refine (owned_State.calls kj39 _ _ t452 a3 t463 _ ?side1 ?side2 A58.out).mono ?_); (case side1 => exact kC ((Kd.R_reads' HO_12.out).2.2)); (case side2 => exact (Kd.R_reads' HO_12.out).2.1); rintro e w61 ⟨rfl, hb⟩; have n0_ := Aside0.mk (Kd.R_below (kR HO_10) hb); have n1_ := Aside0.mk (Kd.R_below (kR HO_12) hb); have n2_ := Aside0.mk (below_step (kZ HB) hb); clear HO_10; clear HO_12; clear HB; have HO_10 := n0_; have HO_12 := n1_; have HB := n2_; clear n0_ n1_ n2_; (try clear hb); (try clear hb2); (try clear hk); (try clear hi)))
                go_meet
                case rel => exact ⟨_, (false), (by first | rfl | (simp; done) | (simp [*]; done)), H', ⟨by have := HJ5.out; have := HK2.out; have := HJ34.out; have := HJ39.out; first | omega | exact Nat.le_refl _⟩, ⟨by (with_reducible repeat (first | apply Kd.R_alloc | apply Kd.R_drewN | apply Kd.R_drew)); exact HO_10.out⟩, ⟨by (with_reducible repeat (first | apply Kd.R_alloc | apply Kd.R_drewN | apply Kd.R_drew)); exact HO_12.out⟩, ⟨kZ HB⟩⟩
               ·rw [if_neg c59] at H
                have c59b0 : (t463 == 2) = false := beq_eq_false_iff_ne.mpr c59
                have c59b1 : (t463 != 2) = true := bne_iff_ne.mpr c59
                (first | rw [c59b0] | (simp only [i64_w, i32_w]; rw [c59b0]) | skip)
                have H' := Aside0.mk H
                clear H
                obtain ⟨Ao62, co62, eo62⟩ := Kd.R_slice HO_12.out
                subst eo62
                go_wp2_with (first | (go_at_call 21; (with_reducible refine (owned_State.calls kj39 _ _ t452 a3 t463 _ ?side1 ?side2 A58.out).mono ?_); (case side1 => exact kC ((Kd.R_reads' HO_12.out).2.2)); (case side2 => exact (Kd.R_reads' HO_12.out).2.1); rintro e w63 ⟨rfl, hb⟩; have n0_ := Aside0.mk (Kd.R_below (kR HO_10) hb); have n1_ := Aside0.mk (Kd.R_below (kR HO_12) hb); have n2_ := Aside0.mk (below_step (kZ HB) hb); clear HO_10; clear HO_12; clear HB; have HO_10 := n0_; have HO_12 := n1_; have HB := n2_; clear n0_ n1_ n2_; (try clear hb); (try clear hb2); (try clear hk); (try clear hi)))
                go_meet
                case rel => exact ⟨_, (true), (by first | rfl | (simp; done) | (simp [*]; done)), H', ⟨by have := HJ5.out; have := HK2.out; have := HJ34.out; have := HJ39.out; first | omega | exact Nat.le_refl _⟩, ⟨by (with_reducible repeat (first | apply Kd.R_alloc | apply Kd.R_drewN | apply Kd.R_drew)); exact HO_10.out⟩, ⟨by (with_reducible repeat (first | apply Kd.R_alloc | apply Kd.R_drewN | apply Kd.R_drew)); exact HO_12.out⟩, ⟨kZ HB⟩⟩
              ·replace c57 := Bool.eq_false_iff.mpr c57
               subst c57
               have H1 : ((owned_State.f kj39 t452 a3).bind fun t464 => ((owned_State.f kj39 l0 a3).bind fun t465 => (cantonlaw11_OwnedOne.j4 kj39 l0 a1 t444 t448 t449 t452 true (t464 != t465)))) = some r := by rw [if_neg (show ¬ (false = true) by decide)] at H; exact H
               clear H
               have H := H1
               clear H1
               replace H := Option.bind_eq_some_iff.mp H
               obtain ⟨t464, A640, H⟩ := H
               replace H : ((owned_State.f kj39 l0 a3).bind fun t465 => (cantonlaw11_OwnedOne.j4 kj39 l0 a1 t444 t448 t449 t452 true (t464 != t465))) = some r := H
               have A64 := Aside0.mk A640
               clear A640
               replace H := Option.bind_eq_some_iff.mp H
               obtain ⟨t465, A650, H⟩ := H
               replace H : (cantonlaw11_OwnedOne.j4 kj39 l0 a1 t444 t448 t449 t452 true (t464 != t465)) = some r := H
               have A65 := Aside0.mk A650
               clear A650
               have H' := Aside0.mk H
               clear H
               obtain ⟨Ao66, co66, eo66⟩ := Kd.R_slice HO_12.out
               subst eo66
               go_wp2_with (first | (go_at_call 21; (with_reducible refine (owned_State.calls kj39 _ _ t452 a3 t464 _ ?side1 ?side2 A64.out).mono ?_); (case side1 => exact kC ((Kd.R_reads' HO_12.out).2.2)); (case side2 => exact (Kd.R_reads' HO_12.out).2.1); rintro e w67 ⟨rfl, hb⟩; have n0_ := Aside0.mk (Kd.R_below (kR HO_10) hb); have n1_ := Aside0.mk (Kd.R_below (kR HO_12) hb); have n2_ := Aside0.mk (below_step (kZ HB) hb); clear HO_10; clear HO_12; clear HB; have HO_10 := n0_; have HO_12 := n1_; have HB := n2_; clear n0_ n1_ n2_; (try clear hb); (try clear hb2); (try clear hk); (try clear hi)) | (go_at_call 21; (with_reducible refine (owned_State.calls kj39 _ _ l0 a3 t465 _ ?side1 ?side2 A65.out).mono ?_); (case side1 => exact kC ((Kd.C_below HR0.out HB.out))); (case side2 => exact HC0.out); rintro e w68 ⟨rfl, hb⟩; have n0_ := Aside0.mk (Kd.R_below (kR HO_10) hb); have n1_ := Aside0.mk (Kd.R_below (kR HO_12) hb); have n2_ := Aside0.mk (below_step (kZ HB) hb); clear HO_10; clear HO_12; clear HB; have HO_10 := n0_; have HO_12 := n1_; have HB := n2_; clear n0_ n1_ n2_; (try clear hb); (try clear hb2); (try clear hk); (try clear hi)))
               go_meet
               case rel => exact ⟨_, ((t464 != t465)), (by first | rfl | (simp; done) | (simp [*]; done)), H', ⟨by have := HJ5.out; have := HK2.out; have := HJ34.out; have := HJ39.out; first | omega | exact Nat.le_refl _⟩, ⟨by (with_reducible repeat (first | apply Kd.R_alloc | apply Kd.R_drewN | apply Kd.R_drew)); exact HO_10.out⟩, ⟨by (with_reducible repeat (first | apply Kd.R_alloc | apply Kd.R_drewN | apply Kd.R_drew)); exact HO_12.out⟩, ⟨kZ HB⟩⟩
             ·replace c56 := Bool.eq_false_iff.mpr c56
              subst c56
              have H1 : (cantonlaw11_OwnedOne.j4 kj39 l0 a1 t444 t448 t449 t452 false false) = some r := by rw [if_neg (show ¬ (false = true) by decide)] at H; exact H
              clear H
              have H := H1
              clear H1
              have H' := Aside0.mk H
              clear H
              go_wp2
              go_meet
              case rel => exact ⟨_, (false), (by first | rfl | (simp; done) | (simp [*]; done)), H', ⟨by have := HJ5.out; have := HK2.out; have := HJ34.out; have := HJ39.out; first | omega | exact Nat.le_refl _⟩, ⟨by (with_reducible repeat (first | apply Kd.R_alloc | apply Kd.R_drewN | apply Kd.R_drew)); exact HO_10.out⟩, ⟨by (with_reducible repeat (first | apply Kd.R_alloc | apply Kd.R_drewN | apply Kd.R_drew)); exact HO_12.out⟩, ⟨kZ HB⟩⟩
            case rest =>
             clear HC55
             try clear c1
             try clear c2
             try clear p2
             try clear c3
             try clear c4
             try clear p4
             try clear q4
             try clear hx4
             try clear c5
             try clear p6
             try clear c9
             try clear c10
             try clear c11
             try clear c11b0
             try clear c11b1
             try clear c13
             try clear c13b0
             try clear c13b1
             try clear c16
             try clear c23
             try clear c28
             try clear c28b0
             try clear c29
             try clear c30
             try clear c30b0
             try clear c32
             try clear c37
             try clear c41
             try clear c42
             try clear c44
             try clear c44b0
             try clear c44b1
             try clear p45
             try clear q45
             try clear hx45
             try clear c54
             try clear c56
             try clear c57
             try clear c59
             try clear c59b0
             try clear c59b1
             try clear p64
             try clear hx456_0
             try clear hx456_1
             try clear hx456_2
             try clear hx458_0
             try clear hx458_1
             try clear hx458_2
             try clear p2
             try clear p4
             try clear p45
             try clear p456
             try clear p458
             try clear p6
             try clear q4
             try clear q45
             try clear q456
             try clear q458
             obtain ⟨kq, x139_54, rfl, HA, HJ54, HO_10, HO_12, HB⟩ := hcut
             cases kq with
             | zero => exact absurd HA.out (by simp [cantonlaw11_OwnedOne.j4])
             | succ kj54 =>
              have H := HA.out
              clear HA
              simp only [cantonlaw11_OwnedOne.j4] at H
              by_cases c69 : x139_54 = true
              ·subst c69
               have H1 : (some false) = some r := by rw [if_pos rfl] at H; exact H
               clear H
               have H := H1
               clear H1
               obtain rfl := Option.some.inj H
               go_wp2
               go_ret
               exact ⟨by first | rfl | (simp [errW_none, errW_some] <;> rfl) | (simp [*, errW_none, errW_some] <;> rfl), kZ HB⟩
              ·replace c69 := Bool.eq_false_iff.mpr c69
               subst c69
               have H1 : (if t444 = true then (if t449 = true then ((cantonref11_Right.f kj54 t448).bind fun t466 => (if t466 = true then (if t453 = true then ((cantonref11_Right.f kj54 t452).bind fun t467 => (if t467 = true then ((owned_State.f kj54 l0 a1).bind fun t468 => (some (t468 == 1))) else (some false))) else (some true)) else (some false))) else (if t453 = true then ((cantonref11_Right.f kj54 t452).bind fun t469 => (if t469 = true then ((owned_State.f kj54 l0 a1).bind fun t470 => (some (t470 == 1))) else (some false))) else (some true))) else (some false)) = some r := by rw [if_neg (show ¬ (false = true) by decide)] at H; exact H
               clear H
               have H := H1
               clear H1
               by_cases c70 : t444 = true
               ·subst c70
                have H1 : (if t449 = true then ((cantonref11_Right.f kj54 t448).bind fun t466 => (if t466 = true then (if t453 = true then ((cantonref11_Right.f kj54 t452).bind fun t467 => (if t467 = true then ((owned_State.f kj54 l0 a1).bind fun t468 => (some (t468 == 1))) else (some false))) else (some true)) else (some false))) else (if t453 = true then ((cantonref11_Right.f kj54 t452).bind fun t469 => (if t469 = true then ((owned_State.f kj54 l0 a1).bind fun t470 => (some (t470 == 1))) else (some false))) else (some true))) = some r := by rw [if_pos rfl] at H; exact H
                clear H
                have H := H1
                clear H1
                by_cases c71 : t449 = true
                ·subst c71
                 have H1 : ((cantonref11_Right.f kj54 t448).bind fun t466 => (if t466 = true then (if t453 = true then ((cantonref11_Right.f kj54 t452).bind fun t467 => (if t467 = true then ((owned_State.f kj54 l0 a1).bind fun t468 => (some (t468 == 1))) else (some false))) else (some true)) else (some false))) = some r := by rw [if_pos rfl] at H; exact H
                 clear H
                 have H := H1
                 clear H1
                 replace H := Option.bind_eq_some_iff.mp H
                 obtain ⟨t466, A720, H⟩ := H
                 replace H : (if t466 = true then (if t453 = true then ((cantonref11_Right.f kj54 t452).bind fun t467 => (if t467 = true then ((owned_State.f kj54 l0 a1).bind fun t468 => (some (t468 == 1))) else (some false))) else (some true)) else (some false)) = some r := H
                 have A72 := Aside0.mk A720
                 clear A720
                 by_cases c73 : t466 = true
                 ·subst c73
                  have H1 : (if t453 = true then ((cantonref11_Right.f kj54 t452).bind fun t467 => (if t467 = true then ((owned_State.f kj54 l0 a1).bind fun t468 => (some (t468 == 1))) else (some false))) else (some true)) = some r := by rw [if_pos rfl] at H; exact H
                  clear H
                  have H := H1
                  clear H1
                  by_cases c74 : t453 = true
                  ·subst c74
                   have H1 : ((cantonref11_Right.f kj54 t452).bind fun t467 => (if t467 = true then ((owned_State.f kj54 l0 a1).bind fun t468 => (some (t468 == 1))) else (some false))) = some r := by rw [if_pos rfl] at H; exact H
                   clear H
                   have H := H1
                   clear H1
                   replace H := Option.bind_eq_some_iff.mp H
                   obtain ⟨t467, A750, H⟩ := H
                   replace H : (if t467 = true then ((owned_State.f kj54 l0 a1).bind fun t468 => (some (t468 == 1))) else (some false)) = some r := H
                   have A75 := Aside0.mk A750
                   clear A750
                   by_cases c76 : t467 = true
                   ·subst c76
                    have H1 : ((owned_State.f kj54 l0 a1).bind fun t468 => (some (t468 == 1))) = some r := by rw [if_pos rfl] at H; exact H
                    clear H
                    have H := H1
                    clear H1
                    replace H := Option.bind_eq_some_iff.mp H
                    obtain ⟨t468, A770, H⟩ := H
                    replace H : (some (t468 == 1)) = some r := H
                    have A77 := Aside0.mk A770
                    clear A770
                    obtain rfl := Option.some.inj H
                    obtain ⟨Ao78, co78, eo78⟩ := Kd.R_slice HO_10.out
                    subst eo78
                    go_wp2_with (first | (go_at_call 18; (with_reducible refine (cantonref11_Right.calls kj54 _ _ t448 true _ ?side1 ?side2 A72.out).mono ?_); (case side1 => exact kC ((Kd.R_reads' HO_10.out).2.2)); (case side2 => exact (Kd.R_reads' HO_10.out).2.1); rintro e w79 ⟨rfl, hb⟩; have n0_ := Aside0.mk (Kd.R_below (kR HO_10) hb); have n1_ := Aside0.mk (Kd.R_below (kR HO_12) hb); have n2_ := Aside0.mk (below_step (kZ HB) hb); clear HO_10; clear HO_12; clear HB; have HO_10 := n0_; have HO_12 := n1_; have HB := n2_; clear n0_ n1_ n2_; (try clear hb); (try clear hb2); (try clear hk); (try clear hi); obtain ⟨Ao80, co80, eo80⟩ := Kd.R_slice HO_12.out; subst eo80) | (go_at_call 18; (with_reducible refine (cantonref11_Right.calls kj54 _ _ t452 true _ ?side1 ?side2 A75.out).mono ?_); (case side1 => exact kC ((Kd.R_reads' HO_12.out).2.2)); (case side2 => exact (Kd.R_reads' HO_12.out).2.1); rintro e w81 ⟨rfl, hb⟩; have n0_ := Aside0.mk (Kd.R_below (kR HO_10) hb); have n1_ := Aside0.mk (Kd.R_below (kR HO_12) hb); have n2_ := Aside0.mk (below_step (kZ HB) hb); clear HO_10; clear HO_12; clear HB; have HO_10 := n0_; have HO_12 := n1_; have HB := n2_; clear n0_ n1_ n2_; (try clear hb); (try clear hb2); (try clear hk); (try clear hi)) | (go_at_call 21; (with_reducible refine (owned_State.calls kj54 _ _ l0 a1 t468 _ ?side1 ?side2 A77.out).mono ?_); (case side1 => exact kC ((Kd.C_below HR0.out HB.out))); (case side2 => exact HC0.out); rintro e w82 ⟨rfl, hb⟩; have n0_ := Aside0.mk (Kd.R_below (kR HO_10) hb); have n1_ := Aside0.mk (Kd.R_below (kR HO_12) hb); have n2_ := Aside0.mk (below_step (kZ HB) hb); clear HO_10; clear HO_12; clear HB; have HO_10 := n0_; have HO_12 := n1_; have HB := n2_; clear n0_ n1_ n2_; (try clear hb); (try clear hb2); (try clear hk); (try clear hi)))
                    go_ret
                    exact ⟨by first | rfl | (simp [errW_none, errW_some] <;> rfl) | (simp [*, errW_none, errW_some] <;> rfl), kZ HB⟩
                   ·replace c76 := Bool.eq_false_iff.mpr c76
                    subst c76
                    have H1 : (some false) = some r := by rw [if_neg (show ¬ (false = true) by decide)] at H; exact H
                    clear H
                    have H := H1
                    clear H1
                    obtain rfl := Option.some.inj H
                    obtain ⟨Ao83, co83, eo83⟩ := Kd.R_slice HO_10.out
                    subst eo83
                    go_wp2_with (first | (go_at_call 18; (with_reducible refine (cantonref11_Right.calls kj54 _ _ t448 true _ ?side1 ?side2 A72.out).mono ?_); (case side1 => exact kC ((Kd.R_reads' HO_10.out).2.2)); (case side2 => exact (Kd.R_reads' HO_10.out).2.1); rintro e w84 ⟨rfl, hb⟩; have n0_ := Aside0.mk (Kd.R_below (kR HO_10) hb); have n1_ := Aside0.mk (Kd.R_below (kR HO_12) hb); have n2_ := Aside0.mk (below_step (kZ HB) hb); clear HO_10; clear HO_12; clear HB; have HO_10 := n0_; have HO_12 := n1_; have HB := n2_; clear n0_ n1_ n2_; (try clear hb); (try clear hb2); (try clear hk); (try clear hi); obtain ⟨Ao85, co85, eo85⟩ := Kd.R_slice HO_12.out; subst eo85) | (go_at_call 18; (with_reducible refine (cantonref11_Right.calls kj54 _ _ t452 false _ ?side1 ?side2 A75.out).mono ?_); (case side1 => exact kC ((Kd.R_reads' HO_12.out).2.2)); (case side2 => exact (Kd.R_reads' HO_12.out).2.1); rintro e w86 ⟨rfl, hb⟩; have n0_ := Aside0.mk (Kd.R_below (kR HO_10) hb); have n1_ := Aside0.mk (Kd.R_below (kR HO_12) hb); have n2_ := Aside0.mk (below_step (kZ HB) hb); clear HO_10; clear HO_12; clear HB; have HO_10 := n0_; have HO_12 := n1_; have HB := n2_; clear n0_ n1_ n2_; (try clear hb); (try clear hb2); (try clear hk); (try clear hi)))
                    go_ret
                    exact ⟨by first | rfl | (simp [errW_none, errW_some] <;> rfl) | (simp [*, errW_none, errW_some] <;> rfl), kZ HB⟩
                  ·replace c74 := Bool.eq_false_iff.mpr c74
                   subst c74
                   have H1 : (some true) = some r := by rw [if_neg (show ¬ (false = true) by decide)] at H; exact H
                   clear H
                   have H := H1
                   clear H1
                   obtain rfl := Option.some.inj H
                   obtain ⟨Ao87, co87, eo87⟩ := Kd.R_slice HO_10.out
                   subst eo87
                   go_wp2_with (first | (go_at_call 18; (with_reducible refine (cantonref11_Right.calls kj54 _ _ t448 true _ ?side1 ?side2 A72.out).mono ?_); (case side1 => exact kC ((Kd.R_reads' HO_10.out).2.2)); (case side2 => exact (Kd.R_reads' HO_10.out).2.1); rintro e w88 ⟨rfl, hb⟩; have n0_ := Aside0.mk (Kd.R_below (kR HO_10) hb); have n1_ := Aside0.mk (Kd.R_below (kR HO_12) hb); have n2_ := Aside0.mk (below_step (kZ HB) hb); clear HO_10; clear HO_12; clear HB; have HO_10 := n0_; have HO_12 := n1_; have HB := n2_; clear n0_ n1_ n2_; (try clear hb); (try clear hb2); (try clear hk); (try clear hi)))
                   go_ret
                   exact ⟨by first | rfl | (simp [errW_none, errW_some] <;> rfl) | (simp [*, errW_none, errW_some] <;> rfl), kZ HB⟩
                 ·replace c73 := Bool.eq_false_iff.mpr c73
                  subst c73
                  have H1 : (some false) = some r := by rw [if_neg (show ¬ (false = true) by decide)] at H; exact H
                  clear H
                  have H := H1
                  clear H1
                  obtain rfl := Option.some.inj H
                  obtain ⟨Ao89, co89, eo89⟩ := Kd.R_slice HO_10.out
                  subst eo89
                  go_wp2_with (first | (go_at_call 18; (with_reducible refine (cantonref11_Right.calls kj54 _ _ t448 false _ ?side1 ?side2 A72.out).mono ?_); (case side1 => exact kC ((Kd.R_reads' HO_10.out).2.2)); (case side2 => exact (Kd.R_reads' HO_10.out).2.1); rintro e w90 ⟨rfl, hb⟩; have n0_ := Aside0.mk (Kd.R_below (kR HO_10) hb); have n1_ := Aside0.mk (Kd.R_below (kR HO_12) hb); have n2_ := Aside0.mk (below_step (kZ HB) hb); clear HO_10; clear HO_12; clear HB; have HO_10 := n0_; have HO_12 := n1_; have HB := n2_; clear n0_ n1_ n2_; (try clear hb); (try clear hb2); (try clear hk); (try clear hi)))
                  go_ret
                  exact ⟨by first | rfl | (simp [errW_none, errW_some] <;> rfl) | (simp [*, errW_none, errW_some] <;> rfl), kZ HB⟩
                ·replace c71 := Bool.eq_false_iff.mpr c71
                 subst c71
                 have H1 : (if t453 = true then ((cantonref11_Right.f kj54 t452).bind fun t469 => (if t469 = true then ((owned_State.f kj54 l0 a1).bind fun t470 => (some (t470 == 1))) else (some false))) else (some true)) = some r := by rw [if_neg (show ¬ (false = true) by decide)] at H; exact H
                 clear H
                 have H := H1
                 clear H1
                 by_cases c91 : t453 = true
                 ·subst c91
                  have H1 : ((cantonref11_Right.f kj54 t452).bind fun t469 => (if t469 = true then ((owned_State.f kj54 l0 a1).bind fun t470 => (some (t470 == 1))) else (some false))) = some r := by rw [if_pos rfl] at H; exact H
                  clear H
                  have H := H1
                  clear H1
                  replace H := Option.bind_eq_some_iff.mp H
                  obtain ⟨t469, A920, H⟩ := H
                  replace H : (if t469 = true then ((owned_State.f kj54 l0 a1).bind fun t470 => (some (t470 == 1))) else (some false)) = some r := H
                  have A92 := Aside0.mk A920
                  clear A920
                  by_cases c93 : t469 = true
                  ·subst c93
                   have H1 : ((owned_State.f kj54 l0 a1).bind fun t470 => (some (t470 == 1))) = some r := by rw [if_pos rfl] at H; exact H
                   clear H
                   have H := H1
                   clear H1
                   replace H := Option.bind_eq_some_iff.mp H
                   obtain ⟨t470, A940, H⟩ := H
                   replace H : (some (t470 == 1)) = some r := H
                   have A94 := Aside0.mk A940
                   clear A940
                   obtain rfl := Option.some.inj H
                   obtain ⟨Ao95, co95, eo95⟩ := Kd.R_slice HO_12.out
                   subst eo95
                   go_wp2_with (first | (go_at_call 18; (with_reducible refine (cantonref11_Right.calls kj54 _ _ t452 true _ ?side1 ?side2 A92.out).mono ?_); (case side1 => exact kC ((Kd.R_reads' HO_12.out).2.2)); (case side2 => exact (Kd.R_reads' HO_12.out).2.1); rintro e w96 ⟨rfl, hb⟩; have n0_ := Aside0.mk (Kd.R_below (kR HO_10) hb); have n1_ := Aside0.mk (Kd.R_below (kR HO_12) hb); have n2_ := Aside0.mk (below_step (kZ HB) hb); clear HO_10; clear HO_12; clear HB; have HO_10 := n0_; have HO_12 := n1_; have HB := n2_; clear n0_ n1_ n2_; (try clear hb); (try clear hb2); (try clear hk); (try clear hi)) | (go_at_call 21; (with_reducible refine (owned_State.calls kj54 _ _ l0 a1 t470 _ ?side1 ?side2 A94.out).mono ?_); (case side1 => exact kC ((Kd.C_below HR0.out HB.out))); (case side2 => exact HC0.out); rintro e w97 ⟨rfl, hb⟩; have n0_ := Aside0.mk (Kd.R_below (kR HO_10) hb); have n1_ := Aside0.mk (Kd.R_below (kR HO_12) hb); have n2_ := Aside0.mk (below_step (kZ HB) hb); clear HO_10; clear HO_12; clear HB; have HO_10 := n0_; have HO_12 := n1_; have HB := n2_; clear n0_ n1_ n2_; (try clear hb); (try clear hb2); (try clear hk); (try clear hi)))
                   go_ret
                   exact ⟨by first | rfl | (simp [errW_none, errW_some] <;> rfl) | (simp [*, errW_none, errW_some] <;> rfl), kZ HB⟩
                  ·replace c93 := Bool.eq_false_iff.mpr c93
                   subst c93
                   have H1 : (some false) = some r := by rw [if_neg (show ¬ (false = true) by decide)] at H; exact H
                   clear H
                   have H := H1
                   clear H1
                   obtain rfl := Option.some.inj H
                   obtain ⟨Ao98, co98, eo98⟩ := Kd.R_slice HO_12.out
                   subst eo98
                   go_wp2_with (first | (go_at_call 18; (with_reducible refine (cantonref11_Right.calls kj54 _ _ t452 false _ ?side1 ?side2 A92.out).mono ?_); (case side1 => exact kC ((Kd.R_reads' HO_12.out).2.2)); (case side2 => exact (Kd.R_reads' HO_12.out).2.1); rintro e w99 ⟨rfl, hb⟩; have n0_ := Aside0.mk (Kd.R_below (kR HO_10) hb); have n1_ := Aside0.mk (Kd.R_below (kR HO_12) hb); have n2_ := Aside0.mk (below_step (kZ HB) hb); clear HO_10; clear HO_12; clear HB; have HO_10 := n0_; have HO_12 := n1_; have HB := n2_; clear n0_ n1_ n2_; (try clear hb); (try clear hb2); (try clear hk); (try clear hi)))
                   go_ret
                   exact ⟨by first | rfl | (simp [errW_none, errW_some] <;> rfl) | (simp [*, errW_none, errW_some] <;> rfl), kZ HB⟩
                 ·replace c91 := Bool.eq_false_iff.mpr c91
                  subst c91
                  have H1 : (some true) = some r := by rw [if_neg (show ¬ (false = true) by decide)] at H; exact H
                  clear H
                  have H := H1
                  clear H1
                  obtain rfl := Option.some.inj H
                  go_wp2
                  go_ret
                  exact ⟨by first | rfl | (simp [errW_none, errW_some] <;> rfl) | (simp [*, errW_none, errW_some] <;> rfl), kZ HB⟩
               ·replace c70 := Bool.eq_false_iff.mpr c70
                subst c70
                have H1 : (some false) = some r := by rw [if_neg (show ¬ (false = true) by decide)] at H; exact H
                clear H
                have H := H1
                clear H1
                obtain rfl := Option.some.inj H
                go_wp2
                go_ret
                exact ⟨by first | rfl | (simp [errW_none, errW_some] <;> rfl) | (simp [*, errW_none, errW_some] <;> rfl), kZ HB⟩

end Go.Proofs.Ytinjajpnbbknnaa.Q
