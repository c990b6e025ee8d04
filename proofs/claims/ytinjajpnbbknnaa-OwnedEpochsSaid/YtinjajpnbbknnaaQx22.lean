-- Written by a program of this session (xprint) out of the translation; over contracts proved by hand.
import Derived.Test.YtinjajpnbbknnaaQx0
import Derived.Test.YtinjajpnbbknnaaSq
import Derived.Test.YtinjajpnbbknnaaQx7
import Derived.Test.YtinjajpnbbknnaaQx8
namespace Go.Proofs.Ytinjajpnbbknnaa.Cut2
end Go.Proofs.Ytinjajpnbbknnaa.Cut2
namespace Go.Proofs.Ytinjajpnbbknnaa.RPut
end Go.Proofs.Ytinjajpnbbknnaa.RPut
namespace Go.Proofs.Ytinjajpnbbknnaa.Split
end Go.Proofs.Ytinjajpnbbknnaa.Split
namespace Go.Proofs.Ytinjajpnbbknnaa.Q
open Go.Proofs.Ytinjajpnbbknnaa.Cut2 Go.Proofs.Ytinjajpnbbknnaa.RPut Go.Proofs.Ytinjajpnbbknnaa.Split
set_option linter.unnecessarySimpa false
open Go.RowKit Go.Proofs.YtinjajpnbbknnaaW.PrintWords Go.Proofs.YtinjajpnbbknnaaW.PrintLast Go.Proofs.YtinjajpnbbknnaaW.PrintMore
attribute [local go_sem] max2_int min2_int max_two min_two max_three min_three max_four min_four   -- for this text's walks alone
set_option linter.unusedVariables false
set_option linter.unusedSimpArgs false

/-! ### cantonlaw11_OwnedEpochs: function 6 -/
mutual
def cantonlaw11_OwnedEpochs.j0 : Nat → List (S45) → ByteArray → Int → Bool → Bool → Option (Bool)
 | 0, _, _, _, _, _ => none
 | k + 1, x0, x1, x2, x7, x27 => if x27 = true then (some x7) else ((owned_Freeze.f k x0 x1).bind fun bt473 => (if bt473.2 = true then ((owned_Of.f k bt473.1 x1).bind fun t477 => (if t477 < 0 then (cantonlaw11_OwnedEpochs.j1 k x1 x2 x7 bt473.1 t477 true) else (if t477 ≥ (bt473.1.length : Int) then (cantonlaw11_OwnedEpochs.j1 k x1 x2 x7 bt473.1 t477 true) else (if 0 ≤ t477 then (if t477 < (bt473.1.length : Int) then (if ((rd_T45 bt473.1 t477).f0).toList = x1.toList then (cantonlaw11_OwnedEpochs.j1 k x1 x2 x7 bt473.1 t477 (((rd_T45 bt473.1 t477).f2) != 2)) else (cantonlaw11_OwnedEpochs.j1 k x1 x2 x7 bt473.1 t477 true)) else (none)) else (none))))) else (if x7 = true then (some ((bt473.1.length : Int) == 0)) else (some false))))
def cantonlaw11_OwnedEpochs.j1 : Nat → ByteArray → Int → Bool → List (S45) → Int → Bool → Option (Bool)
 | 0, _, _, _, _, _, _ => none
 | k + 1, x1, x2, x7, x8, x10, x70 => if x70 = true then (some false) else (if 0 ≤ x10 then (if x10 < (x8.length : Int) then ((owned_Freeze.f k x8 x1).bind fun bt481 => ((owned_Install.f k x8 x1 x2).bind fun bt485 => ((owned_Drop.f k x8 x1 ((rd_T45 x8 x10).f1)).bind fun bt489 => ((owned_Drop.f k x8 x1 (wrap64 (((rd_T45 x8 x10).f1) + 1))).bind fun bt493 => (if bt481.2 = true then (cantonlaw11_OwnedEpochs.j2 k x1 x7 bt485.1 bt485.2 bt489.1 true) else (if x2 > ((rd_T45 x8 x10).f1) then (if (bt485.2 != (decide (x2 ≤ 281474976710656))) = true then (cantonlaw11_OwnedEpochs.j2 k x1 x7 bt485.1 bt485.2 bt489.1 true) else (if bt489.2 = true then (cantonlaw11_OwnedEpochs.j2 k x1 x7 bt485.1 bt485.2 bt489.1 bt493.2) else (cantonlaw11_OwnedEpochs.j2 k x1 x7 bt485.1 bt485.2 bt489.1 true))) else (if (bt485.2 != false) = true then (cantonlaw11_OwnedEpochs.j2 k x1 x7 bt485.1 bt485.2 bt489.1 true) else (if bt489.2 = true then (cantonlaw11_OwnedEpochs.j2 k x1 x7 bt485.1 bt485.2 bt489.1 bt493.2) else (cantonlaw11_OwnedEpochs.j2 k x1 x7 bt485.1 bt485.2 bt489.1 true))))))))) else (none)) else (none))
def cantonlaw11_OwnedEpochs.j2 : Nat → ByteArray → Bool → List (S45) → Bool → List (S45) → Bool → Option (Bool)
 | 0, _, _, _, _, _, _ => none
 | k + 1, x1, x7, x14, x15, x16, x122 => if x122 = true then (some false) else (if x7 = true then ((owned_State.f k x16 x1).bind fun t497 => (if t497 = 3 then (if x15 = true then ((owned_State.f k x14 x1).bind fun t498 => (some (t498 == 1))) else (some true)) else (some false))) else (some false))
end
def cantonlaw11_OwnedEpochs.f (k : Nat) (l0 : List (S45)) (a1 : ByteArray) (a2 : Int) : Option (Bool) := (cantonlaw11_head.f k).bind fun t471 => ((cantonlaw11_Great.f k l0).bind fun t472 => (if t472 = true then (cantonlaw11_OwnedEpochs.j0 k l0 a1 a2 t471 true) else (cantonlaw11_OwnedEpochs.j0 k l0 a1 a2 t471 (decide ((a1.size : Int) > 1000)))))
theorem cantonlaw11_OwnedEpochs.mono_l : ∀ k, (∀ y0 y1 y2 y3 y4, LeO (cantonlaw11_OwnedEpochs.j0 k y0 y1 y2 y3 y4) (cantonlaw11_OwnedEpochs.j0 (k + 1) y0 y1 y2 y3 y4)) ∧ (∀ y0 y1 y2 y3 y4 y5, LeO (cantonlaw11_OwnedEpochs.j1 k y0 y1 y2 y3 y4 y5) (cantonlaw11_OwnedEpochs.j1 (k + 1) y0 y1 y2 y3 y4 y5)) ∧ (∀ y0 y1 y2 y3 y4 y5, LeO (cantonlaw11_OwnedEpochs.j2 k y0 y1 y2 y3 y4 y5) (cantonlaw11_OwnedEpochs.j2 (k + 1) y0 y1 y2 y3 y4 y5))
 | 0 => ⟨fun _ _ _ _ _ r h => by simp [cantonlaw11_OwnedEpochs.j0] at h, fun _ _ _ _ _ _ r h => by simp [cantonlaw11_OwnedEpochs.j1] at h, fun _ _ _ _ _ _ r h => by simp [cantonlaw11_OwnedEpochs.j2] at h⟩
 | k + 1 => by
  obtain ⟨ih0, ih1, ih2⟩ := cantonlaw11_OwnedEpochs.mono_l k
  refine ⟨?_, ?_, ?_⟩
  ·intro y0 y1 y2 y3 y4
   unfold cantonlaw11_OwnedEpochs.j0
   repeat' first
   | (with_reducible exact ih0 _ _ _ _ _)
   | (with_reducible exact ih1 _ _ _ _ _ _)
   | (with_reducible exact ih2 _ _ _ _ _ _)
   | (with_reducible exact cantonlaw11_Great.mono _ _)
   | (with_reducible exact cantonlaw11_head.mono _)
   | (with_reducible exact owned_Drop.mono _ _ _ _)
   | (with_reducible exact owned_Freeze.mono _ _ _)
   | (with_reducible exact owned_Install.mono _ _ _ _)
   | (with_reducible exact owned_Of.mono _ _ _)
   | (with_reducible exact owned_State.mono _ _ _)
   | (with_reducible exact LeO.refl _)
   | (with_reducible exact LeO.none _)
   | (with_reducible refine LeO.ite ?_ ?_)
   | (with_reducible refine LeO.bind ?_ (fun _ => ?_))
   | exact ih0 _ _ _ _ _
   | exact ih1 _ _ _ _ _ _
   | exact ih2 _ _ _ _ _ _
   | exact cantonlaw11_Great.mono _ _
   | exact cantonlaw11_head.mono _
   | exact owned_Drop.mono _ _ _ _
   | exact owned_Freeze.mono _ _ _
   | exact owned_Install.mono _ _ _ _
   | exact owned_Of.mono _ _ _
   | exact owned_State.mono _ _ _
   | exact LeO.none _
   | refine LeO.ite ?_ ?_
   | refine LeO.bind ?_ (fun _ => ?_)
  ·intro y0 y1 y2 y3 y4 y5
   unfold cantonlaw11_OwnedEpochs.j1
   repeat' first
   | (with_reducible exact ih0 _ _ _ _ _)
   | (with_reducible exact ih1 _ _ _ _ _ _)
   | (with_reducible exact ih2 _ _ _ _ _ _)
   | (with_reducible exact cantonlaw11_Great.mono _ _)
   | (with_reducible exact cantonlaw11_head.mono _)
   | (with_reducible exact owned_Drop.mono _ _ _ _)
   | (with_reducible exact owned_Freeze.mono _ _ _)
   | (with_reducible exact owned_Install.mono _ _ _ _)
   | (with_reducible exact owned_Of.mono _ _ _)
   | (with_reducible exact owned_State.mono _ _ _)
   | (with_reducible exact LeO.refl _)
   | (with_reducible exact LeO.none _)
   | (with_reducible refine LeO.ite ?_ ?_)
   | (with_reducible refine LeO.bind ?_ (fun _ => ?_))
   | exact ih0 _ _ _ _ _
   | exact ih1 _ _ _ _ _ _
   | exact ih2 _ _ _ _ _ _
   | exact cantonlaw11_Great.mono _ _
   | exact cantonlaw11_head.mono _
   | exact owned_Drop.mono _ _ _ _
   | exact owned_Freeze.mono _ _ _
   | exact owned_Install.mono _ _ _ _
   | exact owned_Of.mono _ _ _
   | exact owned_State.mono _ _ _
   | exact LeO.none _
   | refine LeO.ite ?_ ?_
   | refine LeO.bind ?_ (fun _ => ?_)
  ·intro y0 y1 y2 y3 y4 y5
   unfold cantonlaw11_OwnedEpochs.j2
   repeat' first
   | (with_reducible exact ih0 _ _ _ _ _)
   | (with_reducible exact ih1 _ _ _ _ _ _)
   | (with_reducible exact ih2 _ _ _ _ _ _)
   | (with_reducible exact cantonlaw11_Great.mono _ _)
   | (with_reducible exact cantonlaw11_head.mono _)
   | (with_reducible exact owned_Drop.mono _ _ _ _)
   | (with_reducible exact owned_Freeze.mono _ _ _)
   | (with_reducible exact owned_Install.mono _ _ _ _)
   | (with_reducible exact owned_Of.mono _ _ _)
   | (with_reducible exact owned_State.mono _ _ _)
   | (with_reducible exact LeO.refl _)
   | (with_reducible exact LeO.none _)
   | (with_reducible refine LeO.ite ?_ ?_)
   | (with_reducible refine LeO.bind ?_ (fun _ => ?_))
   | exact ih0 _ _ _ _ _
   | exact ih1 _ _ _ _ _ _
   | exact ih2 _ _ _ _ _ _
   | exact cantonlaw11_Great.mono _ _
   | exact cantonlaw11_head.mono _
   | exact owned_Drop.mono _ _ _ _
   | exact owned_Freeze.mono _ _ _
   | exact owned_Install.mono _ _ _ _
   | exact owned_Of.mono _ _ _
   | exact owned_State.mono _ _ _
   | exact LeO.none _
   | refine LeO.ite ?_ ?_
   | refine LeO.bind ?_ (fun _ => ?_)
theorem cantonlaw11_OwnedEpochs.mono : ∀ a0 a1 a2 k, LeO (cantonlaw11_OwnedEpochs.f k a0 a1 a2) (cantonlaw11_OwnedEpochs.f (k + 1) a0 a1 a2) := by
 intro a0 a1 a2 k
 obtain ⟨ih0, ih1, ih2⟩ := cantonlaw11_OwnedEpochs.mono_l k
 unfold cantonlaw11_OwnedEpochs.f
 repeat' first
   | (with_reducible exact ih0 _ _ _ _ _)
   | (with_reducible exact ih1 _ _ _ _ _ _)
   | (with_reducible exact ih2 _ _ _ _ _ _)
   | (with_reducible exact cantonlaw11_Great.mono _ _)
   | (with_reducible exact cantonlaw11_head.mono _)
   | (with_reducible exact owned_Drop.mono _ _ _ _)
   | (with_reducible exact owned_Freeze.mono _ _ _)
   | (with_reducible exact owned_Install.mono _ _ _ _)
   | (with_reducible exact owned_Of.mono _ _ _)
   | (with_reducible exact owned_State.mono _ _ _)
   | (with_reducible exact LeO.refl _)
   | (with_reducible exact LeO.none _)
   | (with_reducible refine LeO.ite ?_ ?_)
   | (with_reducible refine LeO.bind ?_ (fun _ => ?_))
   | exact ih0 _ _ _ _ _
   | exact ih1 _ _ _ _ _ _
   | exact ih2 _ _ _ _ _ _
   | exact cantonlaw11_Great.mono _ _
   | exact cantonlaw11_head.mono _
   | exact owned_Drop.mono _ _ _ _
   | exact owned_Freeze.mono _ _ _
   | exact owned_Install.mono _ _ _ _
   | exact owned_Of.mono _ _ _
   | exact owned_State.mono _ _ _
   | exact LeO.none _
   | refine LeO.ite ?_ ?_
   | refine LeO.bind ?_ (fun _ => ?_)
set_option maxHeartbeats 8000000 in
set_option maxRecDepth 100000 in
theorem cantonlaw11_OwnedEpochs.calls (k : Nat) (A0 : Option Addr) (c0 : Nat) (l0 : List (S45)) (a1 : ByteArray) (a2 : Int) (r : Bool) (w : World) (hr0 : Kd.C k45 w A0 l0.length l0) (hc0 : l0.length ≤ c0) (h : cantonlaw11_OwnedEpochs.f k l0 a1 a2 = some r) :
  Calls Try.prog 6 #[.slice A0 l0.length c0, .string a1, .int .i64 a2] w fun e w' => e = .returned (.bool r) ∧ Below w.heap.size w w' := by
 have HR0 := Aside0.mk hr0
 have HC0 := Aside0.mk hc0
 clear hr0 hc0
 have HB := Aside0.mk (Below.refl w.heap.size w)
 have H : ((cantonlaw11_head.f k).bind fun t471 => ((cantonlaw11_Great.f k l0).bind fun t472 => (if t472 = true then (cantonlaw11_OwnedEpochs.j0 k l0 a1 a2 t471 true) else (cantonlaw11_OwnedEpochs.j0 k l0 a1 a2 t471 (decide ((a1.size : Int) > 1000)))))) = some r := h
 clear h
 replace H := Option.bind_eq_some_iff.mp H
 obtain ⟨t471, A40, H⟩ := H
 replace H : ((cantonlaw11_Great.f k l0).bind fun t472 => (if t472 = true then (cantonlaw11_OwnedEpochs.j0 k l0 a1 a2 t471 true) else (cantonlaw11_OwnedEpochs.j0 k l0 a1 a2 t471 (decide ((a1.size : Int) > 1000))))) = some r := H
 have A4 := Aside0.mk A40
 clear A40
 have HC5 := Aside0.mk H
 clear H
 go_enter Try.func6, Try.ntmps6
 go_upto_region 2 with (first | ((with_reducible refine gate_callee (f := 9) rfl ?_); refine gL (some 20) Try.func9 #[] rfl rfl ?_; (with_reducible refine (cantonlaw11_head.calls k  t471 _ A4.out).mono ?_); rintro e w6 ⟨rfl, hb⟩; refine ⟨_, rfl, ?_⟩; have n0_ := Aside0.mk (below_step (kZ HB) hb); clear HB; have HB := n0_; clear n0_; (try clear hb); (try clear hb2); (try clear hk); (try clear hi)))
 (try simp only [Act.put, List.setIfInBounds_toArray, List.set_cons_zero, List.set_cons_succ])
 go_cut [27] (fun v27 wc => ∃ (kq : Nat) (x27_4 : Bool), v27 = .bool x27_4 ∧ Aside0 (cantonlaw11_OwnedEpochs.j0 kq l0 a1 a2 t471 x27_4 = some r) ∧ Aside0 (kq ≤ k) ∧ Aside0 (Below w.heap.size w wc))
 case first =>
  have H := HC5.out
  clear HC5
  replace H := Option.bind_eq_some_iff.mp H
  obtain ⟨t472, A70, H⟩ := H
  replace H : (if t472 = true then (cantonlaw11_OwnedEpochs.j0 k l0 a1 a2 t471 true) else (cantonlaw11_OwnedEpochs.j0 k l0 a1 a2 t471 (decide ((a1.size : Int) > 1000)))) = some r := H
  have A7 := Aside0.mk A70
  clear A70
  by_cases c8 : t472 = true
  ·subst c8
   have H1 : (cantonlaw11_OwnedEpochs.j0 k l0 a1 a2 t471 true) = some r := by rw [if_pos rfl] at H; exact H
   clear H
   have H := H1
   clear H1
   have H' := Aside0.mk H
   clear H
   go_wp2_with (first | ((with_reducible refine gate_callee (f := 10) rfl ?_); refine gL (some 22) Try.func10 #[.slice A0 l0.length c0] rfl rfl ?_; (with_reducible refine (cantonlaw11_Great.calls k _ _ l0 true _ ?side1 ?side2 A7.out).mono ?_); (case side1 => exact kC ((Kd.C_below HR0.out HB.out))); (case side2 => exact HC0.out); rintro e w9 ⟨rfl, hb⟩; refine ⟨_, rfl, ?_⟩; have n0_ := Aside0.mk (below_step (kZ HB) hb); clear HB; have HB := n0_; clear n0_; (try clear hb); (try clear hb2); (try clear hk); (try clear hi)))
   go_meet
   case rel => exact ⟨_, (true), (by first | rfl | (simp; done) | (simp [*]; done)), H', ⟨by first | omega | exact Nat.le_refl _⟩, ⟨kZ HB⟩⟩
  ·replace c8 := Bool.eq_false_iff.mpr c8
   subst c8
   have H1 : (cantonlaw11_OwnedEpochs.j0 k l0 a1 a2 t471 (decide ((a1.size : Int) > 1000))) = some r := by rw [if_neg (show ¬ (false = true) by decide)] at H; exact H
   clear H
   have H := H1
   clear H1
   have H' := Aside0.mk H
   clear H
   go_wp2_with (first | ((with_reducible refine gate_callee (f := 10) rfl ?_); refine gL (some 22) Try.func10 #[.slice A0 l0.length c0] rfl rfl ?_; (with_reducible refine (cantonlaw11_Great.calls k _ _ l0 false _ ?side1 ?side2 A7.out).mono ?_); (case side1 => exact kC ((Kd.C_below HR0.out HB.out))); (case side2 => exact HC0.out); rintro e w10 ⟨rfl, hb⟩; refine ⟨_, rfl, ?_⟩; have n0_ := Aside0.mk (below_step (kZ HB) hb); clear HB; have HB := n0_; clear n0_; (try clear hb); (try clear hb2); (try clear hk); (try clear hi)))
   go_meet
   case rel => exact ⟨_, (decide ((a1.size : Int) > 1000)), (by first | rfl | (simp; done) | (simp [*]; done)), H', ⟨by first | omega | exact Nat.le_refl _⟩, ⟨kZ HB⟩⟩
 case rest =>
  clear HC5
  try clear c1
  try clear p2
  try clear c6
  try clear c8
  try clear c9
  try clear c10
  obtain ⟨kq, x27_4, rfl, HA, HJ4, HB⟩ := hcut
  cases kq with
  | zero => exact absurd HA.out (by simp [cantonlaw11_OwnedEpochs.j0])
  | succ kj4 =>
   have H := HA.out
   clear HA
   simp only [cantonlaw11_OwnedEpochs.j0] at H
   by_cases c11 : x27_4 = true
   ·subst c11
    have H1 : (some t471) = some r := by rw [if_pos rfl] at H; exact H
    clear H
    have H := H1
    clear H1
    obtain rfl := Option.some.inj H
    go_wp2
    go_ret
    exact ⟨by first | rfl | (simp [errW_none, errW_some] <;> rfl) | (simp [*, errW_none, errW_some] <;> rfl), kZ HB⟩
   ·replace c11 := Bool.eq_false_iff.mpr c11
    subst c11
    have H1 : ((owned_Freeze.f kj4 l0 a1).bind fun bt473 => (if bt473.2 = true then ((owned_Of.f kj4 bt473.1 a1).bind fun t477 => (if t477 < 0 then (cantonlaw11_OwnedEpochs.j1 kj4 a1 a2 t471 bt473.1 t477 true) else (if t477 ≥ (bt473.1.length : Int) then (cantonlaw11_OwnedEpochs.j1 kj4 a1 a2 t471 bt473.1 t477 true) else (if 0 ≤ t477 then (if t477 < (bt473.1.length : Int) then (if ((rd_T45 bt473.1 t477).f0).toList = a1.toList then (cantonlaw11_OwnedEpochs.j1 kj4 a1 a2 t471 bt473.1 t477 (((rd_T45 bt473.1 t477).f2) != 2)) else (cantonlaw11_OwnedEpochs.j1 kj4 a1 a2 t471 bt473.1 t477 true)) else (none)) else (none))))) else (if t471 = true then (some ((bt473.1.length : Int) == 0)) else (some false)))) = some r := by rw [if_neg (show ¬ (false = true) by decide)] at H; exact H
    clear H
    have H := H1
    clear H1
    replace H := Option.bind_eq_some_iff.mp H
    obtain ⟨⟨t473, t474⟩, A120, H⟩ := H
    replace H : (if t474 = true then ((owned_Of.f kj4 t473 a1).bind fun t477 => (if t477 < 0 then (cantonlaw11_OwnedEpochs.j1 kj4 a1 a2 t471 t473 t477 true) else (if t477 ≥ (t473.length : Int) then (cantonlaw11_OwnedEpochs.j1 kj4 a1 a2 t471 t473 t477 true) else (if 0 ≤ t477 then (if t477 < (t473.length : Int) then (if ((rd_T45 t473 t477).f0).toList = a1.toList then (cantonlaw11_OwnedEpochs.j1 kj4 a1 a2 t471 t473 t477 (((rd_T45 t473 t477).f2) != 2)) else (cantonlaw11_OwnedEpochs.j1 kj4 a1 a2 t471 t473 t477 true)) else (none)) else (none))))) else (if t471 = true then (some ((t473.length : Int) == 0)) else (some false))) = some r := H
    have A12 := Aside0.mk A120
    clear A120
    by_cases c13 : t474 = true
    ·subst c13
     have H1 : ((owned_Of.f kj4 t473 a1).bind fun t477 => (if t477 < 0 then (cantonlaw11_OwnedEpochs.j1 kj4 a1 a2 t471 t473 t477 true) else (if t477 ≥ (t473.length : Int) then (cantonlaw11_OwnedEpochs.j1 kj4 a1 a2 t471 t473 t477 true) else (if 0 ≤ t477 then (if t477 < (t473.length : Int) then (if ((rd_T45 t473 t477).f0).toList = a1.toList then (cantonlaw11_OwnedEpochs.j1 kj4 a1 a2 t471 t473 t477 (((rd_T45 t473 t477).f2) != 2)) else (cantonlaw11_OwnedEpochs.j1 kj4 a1 a2 t471 t473 t477 true)) else (none)) else (none))))) = some r := by rw [if_pos rfl] at H; exact H
     clear H
     have H := H1
     clear H1
     replace H := Option.bind_eq_some_iff.mp H
     obtain ⟨t477, A140, H⟩ := H
     replace H : (if t477 < 0 then (cantonlaw11_OwnedEpochs.j1 kj4 a1 a2 t471 t473 t477 true) else (if t477 ≥ (t473.length : Int) then (cantonlaw11_OwnedEpochs.j1 kj4 a1 a2 t471 t473 t477 true) else (if 0 ≤ t477 then (if t477 < (t473.length : Int) then (if ((rd_T45 t473 t477).f0).toList = a1.toList then (cantonlaw11_OwnedEpochs.j1 kj4 a1 a2 t471 t473 t477 (((rd_T45 t473 t477).f2) != 2)) else (cantonlaw11_OwnedEpochs.j1 kj4 a1 a2 t471 t473 t477 true)) else (none)) else (none)))) = some r := H
     have A14 := Aside0.mk A140
     clear A140
     have HC15 := Aside0.mk H
     clear H
     go_upto_region 8 with (first | ((with_reducible refine gate_callee (f := 11) rfl ?_); refine gL (some 32) Try.func11 #[.slice A0 l0.length c0, .string a1] rfl rfl ?_; (with_reducible refine (owned_Freeze.calls kj4 _ _ l0 a1 t473 true _ ?side1 ?side2 A12.out).mono ?_); (case side1 => exact kC ((Kd.C_below HR0.out HB.out))); (case side2 => exact HC0.out); rintro e w16 ⟨v475, rfl, ho0, hb⟩; refine ⟨_, rfl, ?_⟩; have n0_ := Aside0.mk (Kd.R_lower ho0 (below_size (kZ HB))); have n1_ := Aside0.mk (below_step (kZ HB) hb); clear HB; have HO476 := n0_; have HB := n1_; clear n0_ n1_; (try clear hb); (try clear hb2); (try clear hk); (try clear hi); (try clear ho0); obtain ⟨Ao17, co17, eo17⟩ := Kd.R_slice HO476.out; subst eo17) | ((with_reducible refine gate_callee (f := 19) rfl ?_); refine gL (some 45) Try.func19 #[.slice Ao17 t473.length co17, .string a1] rfl rfl ?_; (with_reducible refine (owned_Of.calls kj4 _ _ t473 a1 t477 _ ?side1 ?side2 A14.out).mono ?_); (case side1 => exact kC ((Kd.R_reads' HO476.out).2.2)); (case side2 => exact (Kd.R_reads' HO476.out).2.1); rintro e w18 ⟨rfl, hb⟩; refine ⟨_, rfl, ?_⟩; have n0_ := Aside0.mk (Kd.R_below (kR HO476) hb); have n1_ := Aside0.mk (below_step (kZ HB) hb); clear HO476; clear HB; have HO476 := n0_; have HB := n1_; clear n0_ n1_; (try clear hb); (try clear hb2); (try clear hk); (try clear hi)))
     (try simp only [Act.put, List.setIfInBounds_toArray, List.set_cons_zero, List.set_cons_succ])
     go_cut [70] (fun v70 wc => ∃ (kq : Nat) (x70_14 : Bool), v70 = .bool x70_14 ∧ Aside0 (cantonlaw11_OwnedEpochs.j1 kq a1 a2 t471 t473 t477 x70_14 = some r) ∧ Aside0 (kq ≤ kj4) ∧ Aside0 (Kd.R k45 45 wc w.heap.size (fun _ => True) (.slice Ao17 t473.length co17) t473) ∧ Aside0 (Below w.heap.size w wc))
     case first =>
      have H := HC15.out
      clear HC15
      by_cases c19 : t477 < 0
      ·rw [if_pos c19] at H
       have c19b0 : decide (t477 < 0) = true := decide_eq_true c19
       clear c19
       (first | rw [c19b0] | (simp only [i64_w, i32_w]; rw [c19b0]) | skip)
       have H' := Aside0.mk H
       clear H
       go_wp2
       go_meet
       case rel => exact ⟨_, (true), (by first | rfl | (simp; done) | (simp [*]; done)), H', ⟨by have := HJ4.out; first | omega | exact Nat.le_refl _⟩, ⟨by (with_reducible repeat (first | apply Kd.R_alloc | apply Kd.R_drewN | apply Kd.R_drew)); exact HO476.out⟩, ⟨kZ HB⟩⟩
      ·rw [if_neg c19] at H
       have c19b0 : decide (t477 < 0) = false := decide_eq_false c19
       clear c19
       (first | rw [c19b0] | (simp only [i64_w, i32_w]; rw [c19b0]) | skip)
       by_cases c20 : t477 ≥ (t473.length : Int)
       ·rw [if_pos c20] at H
        have c20b0 : decide ((t473.length : Int) ≤ t477) = true := decide_eq_true c20
        clear c20
        have H' := Aside0.mk H
        clear H
        go_wp2
        go_meet
        case rel => exact ⟨_, (true), (by first | rfl | (simp; done) | (simp [*]; done)), H', ⟨by have := HJ4.out; first | omega | exact Nat.le_refl _⟩, ⟨by (with_reducible repeat (first | apply Kd.R_alloc | apply Kd.R_drewN | apply Kd.R_drew)); exact HO476.out⟩, ⟨kZ HB⟩⟩
       ·rw [if_neg c20] at H
        have c20b0 : decide ((t473.length : Int) ≤ t477) = false := decide_eq_false c20
        clear c20
        by_cases c21 : 0 ≤ t477
        ·rw [if_pos c21] at H
         have c21b0 : decide (0 ≤ t477) = true := decide_eq_true c21
         clear c21
         by_cases c22 : t477 < (t473.length : Int)
         ·rw [if_pos c22] at H
          have c22b0 : decide (t477 < (t473.length : Int)) = true := decide_eq_true c22
          clear c22
          by_cases c23 : ((rd_T45 t473 t477).f0).toList = a1.toList
          ·rw [if_pos c23] at H
           have c23b0 : (((rd_T45 t473 t477).f0).toList == a1.toList) = true := beq_iff_eq.mpr c23
           have c23b1 : (((rd_T45 t473 t477).f0).toList != a1.toList) = false := bne_eq_false_iff_eq.mpr c23
           clear c23
           have H' := Aside0.mk H
           clear H
           have p478 : 0 ≤ (t477 : Int) := of_decide_eq_true (by first | (with_reducible assumption) | assumption)
           have q478 : t477 < (t473.length : Int) := of_decide_eq_true (by first | (with_reducible assumption) | assumption)
           obtain ⟨ad478, e478, hx478_0, hx478_1, hx478_2⟩ := at_T45 (Kd.R_reads' HO476.out).2.2 t477 p478 q478
           cases e478
           replace p478 := eq_true p478
           replace q478 := eq_true q478
           have p479 : 0 ≤ (t477 : Int) := of_decide_eq_true (by first | (with_reducible assumption) | assumption)
           have q479 : t477 < (t473.length : Int) := of_decide_eq_true (by first | (with_reducible assumption) | assumption)
           obtain ⟨ad479, e479, hx479_0, hx479_1, hx479_2⟩ := at_T45 (Kd.R_reads' HO476.out).2.2 t477 p479 q479
           obtain rfl : ad478 = ad479 := (by injection e479)
           replace p479 := eq_true p479
           replace q479 := eq_true q479
           go_wp2
           go_meet
           case rel => exact ⟨_, ((((rd_T45 t473 t477).f2) != 2)), (by first | rfl | (simp; done) | (simp [*]; done)), H', ⟨by have := HJ4.out; first | omega | exact Nat.le_refl _⟩, ⟨by (with_reducible repeat (first | apply Kd.R_alloc | apply Kd.R_drewN | apply Kd.R_drew)); exact HO476.out⟩, ⟨kZ HB⟩⟩
          ·rw [if_neg c23] at H
           have c23b0 : (((rd_T45 t473 t477).f0).toList == a1.toList) = false := beq_eq_false_iff_ne.mpr c23
           have c23b1 : (((rd_T45 t473 t477).f0).toList != a1.toList) = true := bne_iff_ne.mpr c23
           have H' := Aside0.mk H
           clear H
           have p478 : 0 ≤ (t477 : Int) := of_decide_eq_true (by first | (with_reducible assumption) | assumption)
           have q478 : t477 < (t473.length : Int) := of_decide_eq_true (by first | (with_reducible assumption) | assumption)
           obtain ⟨ad478, e478, hx478_0, hx478_1, hx478_2⟩ := at_T45 (Kd.R_reads' HO476.out).2.2 t477 p478 q478
           cases e478
           replace p478 := eq_true p478
           replace q478 := eq_true q478
           go_wp2
           go_meet
           case rel => exact ⟨_, (true), (by first | rfl | (simp; done) | (simp [*]; done)), H', ⟨by have := HJ4.out; first | omega | exact Nat.le_refl _⟩, ⟨by (with_reducible repeat (first | apply Kd.R_alloc | apply Kd.R_drewN | apply Kd.R_drew)); exact HO476.out⟩, ⟨kZ HB⟩⟩
         ·rw [if_neg c22] at H
          exact absurd H (by simp)
        ·rw [if_neg c21] at H
         exact absurd H (by simp)
     case rest =>
      clear HC15
      try clear c1
      try clear c2
      try clear p2
      try clear p4
      try clear q4
      try clear hx4
      try clear c6
      try clear c8
      try clear c9
      try clear c10
      try clear c11
      try clear c13
      try clear c19
      try clear c19b0
      try clear c20
      try clear c20b0
      try clear c21
      try clear c21b0
      try clear c22
      try clear c22b0
      try clear c23
      try clear c23b0
      try clear c23b1
      try clear hx478_0
      try clear hx478_1
      try clear hx478_2
      try clear hx479_0
      try clear hx479_1
      try clear hx479_2
      try clear p2
      try clear p478
      try clear p479
      try clear q478
      try clear q479
      obtain ⟨kq, x70_14, rfl, HA, HJ14, HO_8, HB⟩ := hcut
      cases kq with
      | zero => exact absurd HA.out (by simp [cantonlaw11_OwnedEpochs.j1])
      | succ kj14 =>
       have H := HA.out
       clear HA
       simp only [cantonlaw11_OwnedEpochs.j1] at H
       by_cases c24 : x70_14 = true
       ·subst c24
        have H1 : (some false) = some r := by rw [if_pos rfl] at H; exact H
        clear H
        have H := H1
        clear H1
        obtain rfl := Option.some.inj H
        go_wp2
        go_ret
        exact ⟨by first | rfl | (simp [errW_none, errW_some] <;> rfl) | (simp [*, errW_none, errW_some] <;> rfl), kZ HB⟩
       ·replace c24 := Bool.eq_false_iff.mpr c24
        subst c24
        have H1 : (if 0 ≤ t477 then (if t477 < (t473.length : Int) then ((owned_Freeze.f kj14 t473 a1).bind fun bt481 => ((owned_Install.f kj14 t473 a1 a2).bind fun bt485 => ((owned_Drop.f kj14 t473 a1 ((rd_T45 t473 t477).f1)).bind fun bt489 => ((owned_Drop.f kj14 t473 a1 (wrap64 (((rd_T45 t473 t477).f1) + 1))).bind fun bt493 => (if bt481.2 = true then (cantonlaw11_OwnedEpochs.j2 kj14 a1 t471 bt485.1 bt485.2 bt489.1 true) else (if a2 > ((rd_T45 t473 t477).f1) then (if (bt485.2 != (decide (a2 ≤ 281474976710656))) = true then (cantonlaw11_OwnedEpochs.j2 kj14 a1 t471 bt485.1 bt485.2 bt489.1 true) else (if bt489.2 = true then (cantonlaw11_OwnedEpochs.j2 kj14 a1 t471 bt485.1 bt485.2 bt489.1 bt493.2) else (cantonlaw11_OwnedEpochs.j2 kj14 a1 t471 bt485.1 bt485.2 bt489.1 true))) else (if (bt485.2 != false) = true then (cantonlaw11_OwnedEpochs.j2 kj14 a1 t471 bt485.1 bt485.2 bt489.1 true) else (if bt489.2 = true then (cantonlaw11_OwnedEpochs.j2 kj14 a1 t471 bt485.1 bt485.2 bt489.1 bt493.2) else (cantonlaw11_OwnedEpochs.j2 kj14 a1 t471 bt485.1 bt485.2 bt489.1 true))))))))) else (none)) else (none)) = some r := by rw [if_neg (show ¬ (false = true) by decide)] at H; exact H
        clear H
        have H := H1
        clear H1
        by_cases c25 : 0 ≤ t477
        ·rw [if_pos c25] at H
         have c25b0 : decide (0 ≤ t477) = true := decide_eq_true c25
         clear c25
         by_cases c26 : t477 < (t473.length : Int)
         ·rw [if_pos c26] at H
          have c26b0 : decide (t477 < (t473.length : Int)) = true := decide_eq_true c26
          clear c26
          replace H := Option.bind_eq_some_iff.mp H
          obtain ⟨⟨t481, t482⟩, A270, H⟩ := H
          replace H : ((owned_Install.f kj14 t473 a1 a2).bind fun bt485 => ((owned_Drop.f kj14 t473 a1 ((rd_T45 t473 t477).f1)).bind fun bt489 => ((owned_Drop.f kj14 t473 a1 (wrap64 (((rd_T45 t473 t477).f1) + 1))).bind fun bt493 => (if t482 = true then (cantonlaw11_OwnedEpochs.j2 kj14 a1 t471 bt485.1 bt485.2 bt489.1 true) else (if a2 > ((rd_T45 t473 t477).f1) then (if (bt485.2 != (decide (a2 ≤ 281474976710656))) = true then (cantonlaw11_OwnedEpochs.j2 kj14 a1 t471 bt485.1 bt485.2 bt489.1 true) else (if bt489.2 = true then (cantonlaw11_OwnedEpochs.j2 kj14 a1 t471 bt485.1 bt485.2 bt489.1 bt493.2) else (cantonlaw11_OwnedEpochs.j2 kj14 a1 t471 bt485.1 bt485.2 bt489.1 true))) else (if (bt485.2 != false) = true then (cantonlaw11_OwnedEpochs.j2 kj14 a1 t471 bt485.1 bt485.2 bt489.1 true) else (if bt489.2 = true then (cantonlaw11_OwnedEpochs.j2 kj14 a1 t471 bt485.1 bt485.2 bt489.1 bt493.2) else (cantonlaw11_OwnedEpochs.j2 kj14 a1 t471 bt485.1 bt485.2 bt489.1 true)))))))) = some r := H
          have A27 := Aside0.mk A270
          clear A270
          replace H := Option.bind_eq_some_iff.mp H
          obtain ⟨⟨t485, t486⟩, A280, H⟩ := H
          replace H : ((owned_Drop.f kj14 t473 a1 ((rd_T45 t473 t477).f1)).bind fun bt489 => ((owned_Drop.f kj14 t473 a1 (wrap64 (((rd_T45 t473 t477).f1) + 1))).bind fun bt493 => (if t482 = true then (cantonlaw11_OwnedEpochs.j2 kj14 a1 t471 t485 t486 bt489.1 true) else (if a2 > ((rd_T45 t473 t477).f1) then (if (t486 != (decide (a2 ≤ 281474976710656))) = true then (cantonlaw11_OwnedEpochs.j2 kj14 a1 t471 t485 t486 bt489.1 true) else (if bt489.2 = true then (cantonlaw11_OwnedEpochs.j2 kj14 a1 t471 t485 t486 bt489.1 bt493.2) else (cantonlaw11_OwnedEpochs.j2 kj14 a1 t471 t485 t486 bt489.1 true))) else (if (t486 != false) = true then (cantonlaw11_OwnedEpochs.j2 kj14 a1 t471 t485 t486 bt489.1 true) else (if bt489.2 = true then (cantonlaw11_OwnedEpochs.j2 kj14 a1 t471 t485 t486 bt489.1 bt493.2) else (cantonlaw11_OwnedEpochs.j2 kj14 a1 t471 t485 t486 bt489.1 true))))))) = some r := H
          have A28 := Aside0.mk A280
          clear A280
          replace H := Option.bind_eq_some_iff.mp H
          obtain ⟨⟨t489, t490⟩, A290, H⟩ := H
          replace H : ((owned_Drop.f kj14 t473 a1 (wrap64 (((rd_T45 t473 t477).f1) + 1))).bind fun bt493 => (if t482 = true then (cantonlaw11_OwnedEpochs.j2 kj14 a1 t471 t485 t486 t489 true) else (if a2 > ((rd_T45 t473 t477).f1) then (if (t486 != (decide (a2 ≤ 281474976710656))) = true then (cantonlaw11_OwnedEpochs.j2 kj14 a1 t471 t485 t486 t489 true) else (if t490 = true then (cantonlaw11_OwnedEpochs.j2 kj14 a1 t471 t485 t486 t489 bt493.2) else (cantonlaw11_OwnedEpochs.j2 kj14 a1 t471 t485 t486 t489 true))) else (if (t486 != false) = true then (cantonlaw11_OwnedEpochs.j2 kj14 a1 t471 t485 t486 t489 true) else (if t490 = true then (cantonlaw11_OwnedEpochs.j2 kj14 a1 t471 t485 t486 t489 bt493.2) else (cantonlaw11_OwnedEpochs.j2 kj14 a1 t471 t485 t486 t489 true)))))) = some r := H
          have A29 := Aside0.mk A290
          clear A290
          replace H := Option.bind_eq_some_iff.mp H
          obtain ⟨⟨t493, t494⟩, A300, H⟩ := H
          replace H : (if t482 = true then (cantonlaw11_OwnedEpochs.j2 kj14 a1 t471 t485 t486 t489 true) else (if a2 > ((rd_T45 t473 t477).f1) then (if (t486 != (decide (a2 ≤ 281474976710656))) = true then (cantonlaw11_OwnedEpochs.j2 kj14 a1 t471 t485 t486 t489 true) else (if t490 = true then (cantonlaw11_OwnedEpochs.j2 kj14 a1 t471 t485 t486 t489 t494) else (cantonlaw11_OwnedEpochs.j2 kj14 a1 t471 t485 t486 t489 true))) else (if (t486 != false) = true then (cantonlaw11_OwnedEpochs.j2 kj14 a1 t471 t485 t486 t489 true) else (if t490 = true then (cantonlaw11_OwnedEpochs.j2 kj14 a1 t471 t485 t486 t489 t494) else (cantonlaw11_OwnedEpochs.j2 kj14 a1 t471 t485 t486 t489 true))))) = some r := H
          have A30 := Aside0.mk A300
          clear A300
          have HC31 := Aside0.mk H
          clear H
          have p480 : 0 ≤ (t477 : Int) := of_decide_eq_true (by first | (with_reducible assumption) | assumption)
          have q480 : t477 < (t473.length : Int) := of_decide_eq_true (by first | (with_reducible assumption) | assumption)
          obtain ⟨ad480, e480, hx480_0, hx480_1, hx480_2⟩ := at_T45 (Kd.R_reads' HO_8.out).2.2 t477 p480 q480
          cases e480
          replace p480 := eq_true p480
          replace q480 := eq_true q480
          go_upto_region 15 with (first | ((with_reducible refine gate_callee (f := 11) rfl ?_); refine gL (some 79) Try.func11 #[.slice (some ad480) t473.length co17, .string a1] rfl rfl ?_; (with_reducible refine (owned_Freeze.calls kj14 _ _ t473 a1 t481 t482 _ ?side1 ?side2 A27.out).mono ?_); (case side1 => exact kC ((Kd.R_reads' HO_8.out).2.2)); (case side2 => exact (Kd.R_reads' HO_8.out).2.1); rintro e w32 ⟨v483, rfl, ho0, hb⟩; refine ⟨_, rfl, ?_⟩; have n0_ := Aside0.mk (Kd.R_elder' (kR HO_8) (Kd.R_base ho0) hb); have n1_ := Aside0.mk (Kd.R_lower (Kd.R_new' ho0 (Kd.R_lt (kR HO_8))) (below_size (kZ HB))); have n2_ := Aside0.mk (below_step (kZ HB) hb); clear HO_8; clear HB; have HO_8 := n0_; have HO484 := n1_; have HB := n2_; clear n0_ n1_ n2_; (try clear hb); (try clear hb2); (try clear hk); (try clear hi); (try clear ho0)) | ((with_reducible refine gate_callee (f := 13) rfl ?_); refine gL (some 86) Try.func13 #[.slice (some ad480) t473.length co17, .string a1, .int .i64 a2] rfl rfl ?_; (with_reducible refine (owned_Install.calls kj14 _ _ t473 a1 a2 t485 t486 _ ?side1 ?side2 A28.out).mono ?_); (case side1 => exact kC ((Kd.R_reads' HO_8.out).2.2)); (case side2 => exact (Kd.R_reads' HO_8.out).2.1); rintro e w33 ⟨v487, rfl, ho0, hb⟩; refine ⟨_, rfl, ?_⟩; have n0_ := Aside0.mk (Kd.R_elder' (kR HO_8) (Kd.R_base ho0) hb); have n1_ := Aside0.mk (Kd.R_elder' (kR HO484) (Kd.R_base ho0) hb); have n2_ := Aside0.mk (Kd.R_lower (Kd.R_new' (Kd.R_new' ho0 (Kd.R_lt (kR HO_8))) (Kd.R_lt (kR HO484))) (below_size (kZ HB))); have n3_ := Aside0.mk (below_step (kZ HB) hb); clear HO_8; clear HO484; clear HB; have HO_8 := n0_; have HO484 := n1_; have HO488 := n2_; have HB := n3_; clear n0_ n1_ n2_ n3_; (try clear hb); (try clear hb2); (try clear hk); (try clear hi); (try clear ho0)) | ((with_reducible refine gate_callee (f := 15) rfl ?_); refine gL (some 93) Try.func15 #[.slice (some ad480) t473.length co17, .string a1, .int .i64 ((rd_T45 t473 t477).f1)] rfl rfl ?_; (with_reducible refine (owned_Drop.calls kj14 _ _ t473 a1 ((rd_T45 t473 t477).f1) t489 t490 _ ?side1 ?side2 A29.out).mono ?_); (case side1 => exact kC ((Kd.R_reads' HO_8.out).2.2)); (case side2 => exact (Kd.R_reads' HO_8.out).2.1); rintro e w34 ⟨v491, rfl, ho0, hb⟩; refine ⟨_, rfl, ?_⟩; have n0_ := Aside0.mk (Kd.R_elder' (kR HO_8) (Kd.R_base ho0) hb); have n1_ := Aside0.mk (Kd.R_elder' (kR HO484) (Kd.R_base ho0) hb); have n2_ := Aside0.mk (Kd.R_elder' (kR HO488) (Kd.R_base ho0) hb); have n3_ := Aside0.mk (Kd.R_lower (Kd.R_new' (Kd.R_new' (Kd.R_new' ho0 (Kd.R_lt (kR HO_8))) (Kd.R_lt (kR HO484))) (Kd.R_lt (kR HO488))) (below_size (kZ HB))); have n4_ := Aside0.mk (below_step (kZ HB) hb); clear HO_8; clear HO484; clear HO488; clear HB; have HO_8 := n0_; have HO484 := n1_; have HO488 := n2_; have HO492 := n3_; have HB := n4_; clear n0_ n1_ n2_ n3_ n4_; (try clear hb); (try clear hb2); (try clear hk); (try clear hi); (try clear ho0)) | ((with_reducible refine gate_callee (f := 15) rfl ?_); refine gL (some 101) Try.func15 #[.slice (some ad480) t473.length co17, .string a1, .int .i64 (wrap64 (((rd_T45 t473 t477).f1) + 1))] rfl rfl ?_; (with_reducible refine (owned_Drop.calls kj14 _ _ t473 a1 (wrap64 (((rd_T45 t473 t477).f1) + 1)) t493 t494 _ ?side1 ?side2 A30.out).mono ?_); (case side1 => exact kC ((Kd.R_reads' HO_8.out).2.2)); (case side2 => exact (Kd.R_reads' HO_8.out).2.1); rintro e w35 ⟨v495, rfl, ho0, hb⟩; refine ⟨_, rfl, ?_⟩; have n0_ := Aside0.mk (Kd.R_elder' (kR HO_8) (Kd.R_base ho0) hb); have n1_ := Aside0.mk (Kd.R_elder' (kR HO484) (Kd.R_base ho0) hb); have n2_ := Aside0.mk (Kd.R_elder' (kR HO488) (Kd.R_base ho0) hb); have n3_ := Aside0.mk (Kd.R_elder' (kR HO492) (Kd.R_base ho0) hb); have n4_ := Aside0.mk (Kd.R_lower (Kd.R_new' (Kd.R_new' (Kd.R_new' (Kd.R_new' ho0 (Kd.R_lt (kR HO_8))) (Kd.R_lt (kR HO484))) (Kd.R_lt (kR HO488))) (Kd.R_lt (kR HO492))) (below_size (kZ HB))); have n5_ := Aside0.mk (below_step (kZ HB) hb); clear HO_8; clear HO484; clear HO488; clear HO492; clear HB; have HO_8 := n0_; have HO484 := n1_; have HO488 := n2_; have HO492 := n3_; have HO496 := n4_; have HB := n5_; clear n0_ n1_ n2_ n3_ n4_ n5_; (try clear hb); (try clear hb2); (try clear hk); (try clear hi); (try clear ho0)))
          (try simp only [Act.put, List.setIfInBounds_toArray, List.set_cons_zero, List.set_cons_succ])
          go_cut [122] (fun v122 wc => ∃ (kq : Nat) (x122_30 : Bool), v122 = .bool x122_30 ∧ Aside0 (cantonlaw11_OwnedEpochs.j2 kq a1 t471 t485 t486 t489 x122_30 = some r) ∧ Aside0 (kq ≤ kj14) ∧ Aside0 (Kd.R k45 45 wc w.heap.size (fun k_ => some k_ ≠ (v491 : Value).ownBlock) v487 t485) ∧ Aside0 (Kd.R k45 45 wc w.heap.size (fun k_ => some k_ ≠ (v487 : Value).ownBlock) v491 t489) ∧ Aside0 (Below w.heap.size w wc))
          case first =>
           have H := HC31.out
           clear HC31
           by_cases c36 : t482 = true
           ·subst c36
            have H1 : (cantonlaw11_OwnedEpochs.j2 kj14 a1 t471 t485 t486 t489 true) = some r := by rw [if_pos rfl] at H; exact H
            clear H
            have H := H1
            clear H1
            have H' := Aside0.mk H
            clear H
            go_wp2
            go_meet
            case rel => exact ⟨_, (true), (by first | rfl | (simp; done) | (simp [*]; done)), H', ⟨by have := HJ4.out; have := HJ14.out; first | omega | exact Nat.le_refl _⟩, ⟨by (with_reducible repeat (first | apply Kd.R_alloc | apply Kd.R_drewN | apply Kd.R_drew)); exact Kd.R_mono HO488.out (fun _ hk => hk.1.2)⟩, ⟨by (with_reducible repeat (first | apply Kd.R_alloc | apply Kd.R_drewN | apply Kd.R_drew)); exact Kd.R_mono HO492.out (fun _ hk => hk.1.2)⟩, ⟨kZ HB⟩⟩
           ·replace c36 := Bool.eq_false_iff.mpr c36
            subst c36
            have H1 : (if a2 > ((rd_T45 t473 t477).f1) then (if (t486 != (decide (a2 ≤ 281474976710656))) = true then (cantonlaw11_OwnedEpochs.j2 kj14 a1 t471 t485 t486 t489 true) else (if t490 = true then (cantonlaw11_OwnedEpochs.j2 kj14 a1 t471 t485 t486 t489 t494) else (cantonlaw11_OwnedEpochs.j2 kj14 a1 t471 t485 t486 t489 true))) else (if (t486 != false) = true then (cantonlaw11_OwnedEpochs.j2 kj14 a1 t471 t485 t486 t489 true) else (if t490 = true then (cantonlaw11_OwnedEpochs.j2 kj14 a1 t471 t485 t486 t489 t494) else (cantonlaw11_OwnedEpochs.j2 kj14 a1 t471 t485 t486 t489 true)))) = some r := by rw [if_neg (show ¬ (false = true) by decide)] at H; exact H
            clear H
            have H := H1
            clear H1
            by_cases c37 : a2 > ((rd_T45 t473 t477).f1)
            ·rw [if_pos c37] at H
             have c37b0 : decide (((rd_T45 t473 t477).f1) < a2) = true := decide_eq_true c37
             clear c37
             (first | rw [c37b0] | (simp only [i64_w, i32_w]; rw [c37b0]) | skip)
             by_cases c38 : (t486 != (decide (a2 ≤ 281474976710656))) = true
             ·rw [if_pos c38] at H
              have c38b0 : (t486 != (decide (a2 ≤ 281474976710656))) = true := c38
              (try (have c38b1 : decide (t486 = (decide (a2 ≤ 281474976710656))) = false := by simpa using c38))
              (try (have c38b2 : (t486 == (decide (a2 ≤ 281474976710656))) = false := by simpa using c38))
              (try (have c38b3 : ¬ (t486 = (decide (a2 ≤ 281474976710656))) := by simpa using c38))
              clear c38
              have H' := Aside0.mk H
              clear H
              go_wp2
              go_meet
              case rel => exact ⟨_, (true), (by first | rfl | (simp; done) | (simp [*]; done)), H', ⟨by have := HJ4.out; have := HJ14.out; first | omega | exact Nat.le_refl _⟩, ⟨by (with_reducible repeat (first | apply Kd.R_alloc | apply Kd.R_drewN | apply Kd.R_drew)); exact Kd.R_mono HO488.out (fun _ hk => hk.1.2)⟩, ⟨by (with_reducible repeat (first | apply Kd.R_alloc | apply Kd.R_drewN | apply Kd.R_drew)); exact Kd.R_mono HO492.out (fun _ hk => hk.1.2)⟩, ⟨kZ HB⟩⟩
             ·rw [if_neg c38] at H
              have c38b0 : (t486 != (decide (a2 ≤ 281474976710656))) = false := by simpa using c38
              (try (have c38b1 : decide (t486 = (decide (a2 ≤ 281474976710656))) = true := by simpa using c38))
              (try (have c38b2 : (t486 == (decide (a2 ≤ 281474976710656))) = true := by simpa using c38))
              clear c38
              by_cases c39 : t490 = true
              ·subst c39
               have H1 : (cantonlaw11_OwnedEpochs.j2 kj14 a1 t471 t485 t486 t489 t494) = some r := by rw [if_pos rfl] at H; exact H
               clear H
               have H := H1
               clear H1
               have H' := Aside0.mk H
               clear H
               go_wp2
               go_meet
               case rel => exact ⟨_, (t494), (by first | rfl | (simp; done) | (simp [*]; done)), H', ⟨by have := HJ4.out; have := HJ14.out; first | omega | exact Nat.le_refl _⟩, ⟨by (with_reducible repeat (first | apply Kd.R_alloc | apply Kd.R_drewN | apply Kd.R_drew)); exact Kd.R_mono HO488.out (fun _ hk => hk.1.2)⟩, ⟨by (with_reducible repeat (first | apply Kd.R_alloc | apply Kd.R_drewN | apply Kd.R_drew)); exact Kd.R_mono HO492.out (fun _ hk => hk.1.2)⟩, ⟨kZ HB⟩⟩
              ·replace c39 := Bool.eq_false_iff.mpr c39
               subst c39
               have H1 : (cantonlaw11_OwnedEpochs.j2 kj14 a1 t471 t485 t486 t489 true) = some r := by rw [if_neg (show ¬ (false = true) by decide)] at H; exact H
               clear H
               have H := H1
               clear H1
               have H' := Aside0.mk H
               clear H
               go_wp2
               go_meet
               case rel => exact ⟨_, (true), (by first | rfl | (simp; done) | (simp [*]; done)), H', ⟨by have := HJ4.out; have := HJ14.out; first | omega | exact Nat.le_refl _⟩, ⟨by (with_reducible repeat (first | apply Kd.R_alloc | apply Kd.R_drewN | apply Kd.R_drew)); exact Kd.R_mono HO488.out (fun _ hk => hk.1.2)⟩, ⟨by (with_reducible repeat (first | apply Kd.R_alloc | apply Kd.R_drewN | apply Kd.R_drew)); exact Kd.R_mono HO492.out (fun _ hk => hk.1.2)⟩, ⟨kZ HB⟩⟩
            ·rw [if_neg c37] at H
             have c37b0 : decide (((rd_T45 t473 t477).f1) < a2) = false := decide_eq_false c37
             clear c37
             (first | rw [c37b0] | (simp only [i64_w, i32_w]; rw [c37b0]) | skip)
             by_cases c40 : (t486 != false) = true
             ·rw [if_pos c40] at H
              have c40b0 : (t486 != false) = true := c40
              (try (have c40b1 : decide (t486 = false) = false := by simpa using c40))
              (try (have c40b2 : (t486 == false) = false := by simpa using c40))
              (try (have c40b3 : ¬ (t486 = false) := by simpa using c40))
              clear c40
              have H' := Aside0.mk H
              clear H
              go_wp2
              go_meet
              case rel => exact ⟨_, (true), (by first | rfl | (simp; done) | (simp [*]; done)), H', ⟨by have := HJ4.out; have := HJ14.out; first | omega | exact Nat.le_refl _⟩, ⟨by (with_reducible repeat (first | apply Kd.R_alloc | apply Kd.R_drewN | apply Kd.R_drew)); exact Kd.R_mono HO488.out (fun _ hk => hk.1.2)⟩, ⟨by (with_reducible repeat (first | apply Kd.R_alloc | apply Kd.R_drewN | apply Kd.R_drew)); exact Kd.R_mono HO492.out (fun _ hk => hk.1.2)⟩, ⟨kZ HB⟩⟩
             ·rw [if_neg c40] at H
              have c40b0 : (t486 != false) = false := by simpa using c40
              (try (have c40b1 : decide (t486 = false) = true := by simpa using c40))
              (try (have c40b2 : (t486 == false) = true := by simpa using c40))
              clear c40
              by_cases c41 : t490 = true
              ·subst c41
               have H1 : (cantonlaw11_OwnedEpochs.j2 kj14 a1 t471 t485 t486 t489 t494) = some r := by rw [if_pos rfl] at H; exact H
               clear H
               have H := H1
               clear H1
               have H' := Aside0.mk H
               clear H
               go_wp2
               go_meet
               case rel => exact ⟨_, (t494), (by first | rfl | (simp; done) | (simp [*]; done)), H', ⟨by have := HJ4.out; have := HJ14.out; first | omega | exact Nat.le_refl _⟩, ⟨by (with_reducible repeat (first | apply Kd.R_alloc | apply Kd.R_drewN | apply Kd.R_drew)); exact Kd.R_mono HO488.out (fun _ hk => hk.1.2)⟩, ⟨by (with_reducible repeat (first | apply Kd.R_alloc | apply Kd.R_drewN | apply Kd.R_drew)); exact Kd.R_mono HO492.out (fun _ hk => hk.1.2)⟩, ⟨kZ HB⟩⟩
              ·replace c41 := Bool.eq_false_iff.mpr c41
               subst c41
               have H1 : (cantonlaw11_OwnedEpochs.j2 kj14 a1 t471 t485 t486 t489 true) = some r := by rw [if_neg (show ¬ (false = true) by decide)] at H; exact H
               clear H
               have H := H1
               clear H1
               have H' := Aside0.mk H
               clear H
               go_wp2
               go_meet
               case rel => exact ⟨_, (true), (by first | rfl | (simp; done) | (simp [*]; done)), H', ⟨by have := HJ4.out; have := HJ14.out; first | omega | exact Nat.le_refl _⟩, ⟨by (with_reducible repeat (first | apply Kd.R_alloc | apply Kd.R_drewN | apply Kd.R_drew)); exact Kd.R_mono HO488.out (fun _ hk => hk.1.2)⟩, ⟨by (with_reducible repeat (first | apply Kd.R_alloc | apply Kd.R_drewN | apply Kd.R_drew)); exact Kd.R_mono HO492.out (fun _ hk => hk.1.2)⟩, ⟨kZ HB⟩⟩
          case rest =>
           clear HC31
           try clear c1
           try clear c2
           try clear p2
           try clear c3
           try clear c4
           try clear p4
           try clear q4
           try clear hx4
           try clear c6
           try clear p6
           try clear c8
           try clear c9
           try clear c10
           try clear c11
           try clear c13
           try clear c15
           try clear c19
           try clear c19b0
           try clear c20
           try clear c20b0
           try clear c21
           try clear c21b0
           try clear c22
           try clear c22b0
           try clear c23
           try clear c23b0
           try clear c23b1
           try clear c24
           try clear c25
           try clear c25b0
           try clear c26
           try clear c26b0
           try clear c36
           try clear c37
           try clear c37b0
           try clear c38
           try clear c38b0
           try clear c38b1
           try clear c38b2
           try clear c39
           try clear c40
           try clear c40b0
           try clear c40b1
           try clear c40b2
           try clear c41
           try clear hx478_0
           try clear hx478_1
           try clear hx478_2
           try clear hx479_0
           try clear hx479_1
           try clear hx479_2
           try clear hx480_0
           try clear hx480_1
           try clear hx480_2
           try clear p2
           try clear p4
           try clear p478
           try clear p479
           try clear p480
           try clear q4
           try clear q478
           try clear q479
           try clear q480
           obtain ⟨kq, x122_30, rfl, HA, HJ30, HO_14, HO_16, HB⟩ := hcut
           cases kq with
           | zero => exact absurd HA.out (by simp [cantonlaw11_OwnedEpochs.j2])
           | succ kj30 =>
            have H := HA.out
            clear HA
            simp only [cantonlaw11_OwnedEpochs.j2] at H
            by_cases c42 : x122_30 = true
            ·subst c42
             have H1 : (some false) = some r := by rw [if_pos rfl] at H; exact H
             clear H
             have H := H1
             clear H1
             obtain rfl := Option.some.inj H
             go_wp2
             go_ret
             exact ⟨by first | rfl | (simp [errW_none, errW_some] <;> rfl) | (simp [*, errW_none, errW_some] <;> rfl), kZ HB⟩
            ·replace c42 := Bool.eq_false_iff.mpr c42
             subst c42
             have H1 : (if t471 = true then ((owned_State.f kj30 t489 a1).bind fun t497 => (if t497 = 3 then (if t486 = true then ((owned_State.f kj30 t485 a1).bind fun t498 => (some (t498 == 1))) else (some true)) else (some false))) else (some false)) = some r := by rw [if_neg (show ¬ (false = true) by decide)] at H; exact H
             clear H
             have H := H1
             clear H1
             by_cases c43 : t471 = true
             ·subst c43
              have H1 : ((owned_State.f kj30 t489 a1).bind fun t497 => (if t497 = 3 then (if t486 = true then ((owned_State.f kj30 t485 a1).bind fun t498 => (some (t498 == 1))) else (some true)) else (some false))) = some r := by rw [if_pos rfl] at H; exact H
              clear H
              have H := H1
              clear H1
              replace H := Option.bind_eq_some_iff.mp H
              obtain ⟨t497, A440, H⟩ := H
              replace H : (if t497 = 3 then (if t486 = true then ((owned_State.f kj30 t485 a1).bind fun t498 => (some (t498 == 1))) else (some true)) else (some false)) = some r := H
              have A44 := Aside0.mk A440
              clear A440
              by_cases c45 : t497 = 3
              ·rw [if_pos c45] at H
               have c45b0 : (t497 == 3) = true := beq_iff_eq.mpr c45
               have c45b1 : (t497 != 3) = false := bne_eq_false_iff_eq.mpr c45
               clear c45
               by_cases c46 : t486 = true
               ·subst c46
                have H1 : ((owned_State.f kj30 t485 a1).bind fun t498 => (some (t498 == 1))) = some r := by rw [if_pos rfl] at H; exact H
                clear H
                have H := H1
                clear H1
                replace H := Option.bind_eq_some_iff.mp H
                obtain ⟨t498, A470, H⟩ := H
                replace H : (some (t498 == 1)) = some r := H
                have A47 := Aside0.mk A470
                clear A470
                obtain rfl := Option.some.inj H
                obtain ⟨Ao48, co48, eo48⟩ := Kd.R_slice HO_16.out
                subst eo48
                go_wp2_with (first | (go_at_call 21; (with_reducible refine (owned_State.calls kj30 _ _ t489 a1 t497 _ ?side1 ?side2 A44.out).mono ?_); (case side1 => exact kC ((Kd.R_reads' HO_16.out).2.2)); (case side2 => exact (Kd.R_reads' HO_16.out).2.1); rintro e w49 ⟨rfl, hb⟩; have n0_ := Aside0.mk (Kd.R_below (kR HO_14) hb); have n1_ := Aside0.mk (Kd.R_below (kR HO_16) hb); have n2_ := Aside0.mk (below_step (kZ HB) hb); clear HO_14; clear HO_16; clear HB; have HO_14 := n0_; have HO_16 := n1_; have HB := n2_; clear n0_ n1_ n2_; (try clear hb); (try clear hb2); (try clear hk); (try clear hi); obtain ⟨Ao50, co50, eo50⟩ := Kd.R_slice HO_14.out; subst eo50) | (go_at_call 21; (with_reducible refine (owned_State.calls kj30 _ _ t485 a1 t498 _ ?side1 ?side2 A47.out).mono ?_); (case side1 => exact kC ((Kd.R_reads' HO_14.out).2.2)); (case side2 => exact (Kd.R_reads' HO_14.out).2.1); rintro e w51 ⟨rfl, hb⟩; have n0_ := Aside0.mk (Kd.R_below (kR HO_14) hb); have n1_ := Aside0.mk (Kd.R_below (kR HO_16) hb); have n2_ := Aside0.mk (below_step (kZ HB) hb); clear HO_14; clear HO_16; clear HB; have HO_14 := n0_; have HO_16 := n1_; have HB := n2_; clear n0_ n1_ n2_; (try clear hb); (try clear hb2); (try clear hk); (try clear hi)))
                go_ret
                exact ⟨by first | rfl | (simp [errW_none, errW_some] <;> rfl) | (simp [*, errW_none, errW_some] <;> rfl), kZ HB⟩
               ·replace c46 := Bool.eq_false_iff.mpr c46
                subst c46
                have H1 : (some true) = some r := by rw [if_neg (show ¬ (false = true) by decide)] at H; exact H
                clear H
                have H := H1
                clear H1
                obtain rfl := Option.some.inj H
                obtain ⟨Ao52, co52, eo52⟩ := Kd.R_slice HO_16.out
                subst eo52
                go_wp2_with (first | (go_at_call 21; (with_reducible refine (owned_State.calls kj30 _ _ t489 a1 t497 _ ?side1 ?side2 A44.out).mono ?_); (case side1 => exact kC ((Kd.R_reads' HO_16.out).2.2)); (case side2 => exact (Kd.R_reads' HO_16.out).2.1); rintro e w53 ⟨rfl, hb⟩; have n0_ := Aside0.mk (Kd.R_below (kR HO_14) hb); have n1_ := Aside0.mk (Kd.R_below (kR HO_16) hb); have n2_ := Aside0.mk (below_step (kZ HB) hb); clear HO_14; clear HO_16; clear HB; have HO_14 := n0_; have HO_16 := n1_; have HB := n2_; clear n0_ n1_ n2_; (try clear hb); (try clear hb2); (try clear hk); (try clear hi)))
                go_ret
                exact ⟨by first | rfl | (simp [errW_none, errW_some] <;> rfl) | (simp [*, errW_none, errW_some] <;> rfl), kZ HB⟩
              ·rw [if_neg c45] at H
               have c45b0 : (t497 == 3) = false := beq_eq_false_iff_ne.mpr c45
               have c45b1 : (t497 != 3) = true := bne_iff_ne.mpr c45
               obtain rfl := Option.some.inj H
               obtain ⟨Ao54, co54, eo54⟩ := Kd.R_slice HO_16.out
               subst eo54
               go_wp2_with (first | (go_at_call 21; (with_reducible refine (owned_State.calls kj30 _ _ t489 a1 t497 _ ?side1 ?side2 A44.out).mono ?_); (case side1 => exact kC ((Kd.R_reads' HO_16.out).2.2)); (case side2 => exact (Kd.R_reads' HO_16.out).2.1); rintro e w55 ⟨rfl, hb⟩; have n0_ := Aside0.mk (Kd.R_below (kR HO_14) hb); have n1_ := Aside0.mk (Kd.R_below (kR HO_16) hb); have n2_ := Aside0.mk (below_step (kZ HB) hb); clear HO_14; clear HO_16; clear HB; have HO_14 := n0_; have HO_16 := n1_; have HB := n2_; clear n0_ n1_ n2_; (try clear hb); (try clear hb2); (try clear hk); (try clear hi)))
               go_ret
               exact ⟨by first | rfl | (simp [errW_none, errW_some] <;> rfl) | (simp [*, errW_none, errW_some] <;> rfl), kZ HB⟩
             ·replace c43 := Bool.eq_false_iff.mpr c43
              subst c43
              have H1 : (some false) = some r := by rw [if_neg (show ¬ (false = true) by decide)] at H; exact H
              clear H
              have H := H1
              clear H1
              obtain rfl := Option.some.inj H
              go_wp2
              go_ret
              exact ⟨by first | rfl | (simp [errW_none, errW_some] <;> rfl) | (simp [*, errW_none, errW_some] <;> rfl), kZ HB⟩
         ·rw [if_neg c26] at H
          exact absurd H (by simp)
        ·rw [if_neg c25] at H
         exact absurd H (by simp)
    ·replace c13 := Bool.eq_false_iff.mpr c13
     subst c13
     have H1 : (if t471 = true then (some ((t473.length : Int) == 0)) else (some false)) = some r := by rw [if_neg (show ¬ (false = true) by decide)] at H; exact H
     clear H
     have H := H1
     clear H1
     by_cases c56 : t471 = true
     ·subst c56
      have H1 : (some ((t473.length : Int) == 0)) = some r := by rw [if_pos rfl] at H; exact H
      clear H
      have H := H1
      clear H1
      obtain rfl := Option.some.inj H
      go_wp2_with (first | ((with_reducible refine gate_callee (f := 11) rfl ?_); refine gL (some 32) Try.func11 #[.slice A0 l0.length c0, .string a1] rfl rfl ?_; (with_reducible refine (owned_Freeze.calls kj4 _ _ l0 a1 t473 false _ ?side1 ?side2 A12.out).mono ?_); (case side1 => exact kC ((Kd.C_below HR0.out HB.out))); (case side2 => exact HC0.out); rintro e w57 ⟨v475, rfl, ho0, hb⟩; refine ⟨_, rfl, ?_⟩; have n0_ := Aside0.mk (Kd.R_lower ho0 (below_size (kZ HB))); have n1_ := Aside0.mk (below_step (kZ HB) hb); clear HB; have HO476 := n0_; have HB := n1_; clear n0_ n1_; (try clear hb); (try clear hb2); (try clear hk); (try clear hi); (try clear ho0); obtain ⟨Ao58, co58, eo58⟩ := Kd.R_slice HO476.out; subst eo58))
      go_ret
      exact ⟨by first | rfl | (simp [errW_none, errW_some] <;> rfl) | (simp [*, errW_none, errW_some] <;> rfl), kZ HB⟩
     ·replace c56 := Bool.eq_false_iff.mpr c56
      subst c56
      have H1 : (some false) = some r := by rw [if_neg (show ¬ (false = true) by decide)] at H; exact H
      clear H
      have H := H1
      clear H1
      obtain rfl := Option.some.inj H
      go_wp2_with (first | ((with_reducible refine gate_callee (f := 11) rfl ?_); refine gL (some 32) Try.func11 #[.slice A0 l0.length c0, .string a1] rfl rfl ?_; (with_reducible refine (owned_Freeze.calls kj4 _ _ l0 a1 t473 false _ ?side1 ?side2 A12.out).mono ?_); (case side1 => exact kC ((Kd.C_below HR0.out HB.out))); (case side2 => exact HC0.out); rintro e w59 ⟨v475, rfl, ho0, hb⟩; refine ⟨_, rfl, ?_⟩; have n0_ := Aside0.mk (Kd.R_lower ho0 (below_size (kZ HB))); have n1_ := Aside0.mk (below_step (kZ HB) hb); clear HB; have HO476 := n0_; have HB := n1_; clear n0_ n1_; (try clear hb); (try clear hb2); (try clear hk); (try clear hi); (try clear ho0)))
      go_ret
      exact ⟨by first | rfl | (simp [errW_none, errW_some] <;> rfl) | (simp [*, errW_none, errW_some] <;> rfl), kZ HB⟩

end Go.Proofs.Ytinjajpnbbknnaa.Q
