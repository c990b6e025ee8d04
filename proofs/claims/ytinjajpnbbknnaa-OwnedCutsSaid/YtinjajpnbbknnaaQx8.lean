-- Written by a program of this session (xprint) out of the translation; over contracts proved by hand.
import Derived.KernelRfl
import Derived.Test.YtinjajpnbbknnaaQx0
import Derived.Test.YtinjajpnbbknnaaSq
import Derived.Test.YtinjajpnbbknnaaQx4
import Derived.Test.YtinjajpnbbknnaaQx5
import Derived.Test.YtinjajpnbbknnaaQx7
import Derived.Test.YtinjajpnbbknnaaCut2
import Derived.Test.YtinjajpnbbknnaaRPut
namespace Go.Proofs.Ytinjajpnbbknnaa.Cut2
end Go.Proofs.Ytinjajpnbbknnaa.Cut2
namespace Go.Proofs.Ytinjajpnbbknnaa.RPut
end Go.Proofs.Ytinjajpnbbknnaa.RPut
namespace Go.Proofs.Ytinjajpnbbknnaa.Split
end Go.Proofs.Ytinjajpnbbknnaa.Split
namespace Go.Proofs.Ytinjajpnbbknnaa.Q
open Go.Proofs.Ytinjajpnbbknnaa.Cut2 Go.Proofs.Ytinjajpnbbknnaa.RPut Go.Proofs.Ytinjajpnbbknnaa.Split
set_option linter.unnecessarySimpa false
open Go.RowKit Go.Proofs.YtinjajpnbbknnaaW.PrintWords Go.Proofs.YtinjajpnbbknnaaW.PrintLast Go.Proofs.YtinjajpnbbknnaaW.PrintMore
attribute [local go_sem] max2_int min2_int max_two min_two max_three min_three max_four min_four   -- for this text's walks alone
set_option linter.unusedVariables false
set_option linter.unusedSimpArgs false

/-! ### owned_Freeze: function 11 -/
def owned_Freeze.f (k : Nat) (l0 : List (S45)) (a1 : ByteArray) : Option ((List (S45)) × Bool) := (owned_Of.f k l0 a1).bind fun t133 => (if t133 < 0 then (some (([] : List (S45)), false)) else (if 0 ≤ t133 then (if t133 < (l0.length : Int) then (if ((rd_T45 l0 t133).f2) = 1 then ((owned_put.f l0 a1 ((rd_T45 l0 t133).f1) 2).bind fun bt136 => (some (bt136.1, bt136.2))) else (some (([] : List (S45)), false))) else (none)) else (none)))
theorem owned_Freeze.mono : ∀ a0 a1 k, LeO (owned_Freeze.f k a0 a1) (owned_Freeze.f (k + 1) a0 a1) := by
 intro a0 a1 k
 unfold owned_Freeze.f
 repeat' first
   | (with_reducible exact owned_Of.mono _ _ _)
   | (with_reducible exact LeO.refl _)
   | (with_reducible exact LeO.none _)
   | (with_reducible refine LeO.ite ?_ ?_)
   | (with_reducible refine LeO.bind ?_ (fun _ => ?_))
   | exact owned_Of.mono _ _ _
   | exact LeO.none _
   | refine LeO.ite ?_ ?_
   | refine LeO.bind ?_ (fun _ => ?_)
set_option maxHeartbeats 8000000 in
set_option maxRecDepth 100000 in
theorem owned_Freeze.calls (k : Nat) (A0 : Option Addr) (c0 : Nat) (l0 : List (S45)) (a1 : ByteArray) (r1 : List (S45)) (r2 : Bool) (w : World) (hr0 : Kd.C k45 w A0 l0.length l0) (hc0 : l0.length ≤ c0) (h : owned_Freeze.f k l0 a1 = some (r1, r2)) :
  Calls Try.prog 11 #[.slice A0 l0.length c0, .string a1] w fun e w' => ∃ v0_ : Value, e = .returned (.tuple #[v0_, .bool r2]) ∧ Kd.R k45 45 w' w.heap.size (fun _ => True) v0_ r1 ∧ Below w.heap.size w w' := by
 have hu45 := Try.underlying45
 have HR0 := am_ hr0
 have HC0 := am_ hc0
 clear hr0 hc0
 have HB := am_ (Below.refl w.heap.size w)
 have H : ((owned_Of.f k l0 a1).bind fun t133 => (if t133 < 0 then (some (([] : List (S45)), false)) else (if 0 ≤ t133 then (if t133 < (l0.length : Int) then (if ((rd_T45 l0 t133).f2) = 1 then ((owned_put.f l0 a1 ((rd_T45 l0 t133).f1) 2).bind fun bt136 => (some (bt136.1, bt136.2))) else (some (([] : List (S45)), false))) else (none)) else (none)))) = some (r1, r2) := h
 clear h
 replace H := Option.bind_eq_some_iff.mp H
 obtain ⟨t133, A30, H⟩ := H
 replace H : (if t133 < 0 then (some (([] : List (S45)), false)) else (if 0 ≤ t133 then (if t133 < (l0.length : Int) then (if ((rd_T45 l0 t133).f2) = 1 then ((owned_put.f l0 a1 ((rd_T45 l0 t133).f1) 2).bind fun bt136 => (some (bt136.1, bt136.2))) else (some (([] : List (S45)), false))) else (none)) else (none))) = some (r1, r2) := H
 have A3 := am_ A30
 clear A30
 by_cases c4 : t133 < 0
 rotate_left
 ·rw [if_neg c4] at H
  have c4b0 : decide (t133 < 0) = false := decide_eq_false c4
  clear c4
  by_cases c6 : 0 ≤ t133
  rotate_left
  ·rw [if_neg c6] at H
   exact absurd H (by simp)

  rw [if_pos c6] at H
  have c6b0 : decide (0 ≤ t133) = true := decide_eq_true c6
  clear c6
  by_cases c7 : t133 < (l0.length : Int)
  rotate_left
  ·rw [if_neg c7] at H
   exact absurd H (by simp)
  rw [if_pos c7] at H
  have c7b0 : decide (t133 < (l0.length : Int)) = true := decide_eq_true c7
  clear c7
  by_cases c8 : ((rd_T45 l0 t133).f2) = 1
  rotate_left
  ·rw [if_neg c8] at H
   have c8b0 : (((rd_T45 l0 t133).f2) == 1) = false := beq_eq_false_iff_ne.mpr c8
   have c8b1 : (((rd_T45 l0 t133).f2) != 1) = true := bne_iff_ne.mpr c8
   simp only [Option.some.injEq, Prod.mk.injEq] at H
   obtain ⟨rfl, rfl⟩ := H
   go_enter Try.func11, Try.ntmps11
   go_wp2_with (first | ((with_reducible refine gate_callee (f := 19) rfl ?_); refine gL (some 9) Try.func19 #[.slice A0 l0.length c0, .string a1] rfl rfl ?_; (with_reducible refine (owned_Of.calls k _ _ l0 a1 t133 _ ?side1 ?side2 A3.out).mono ?_); (case side1 => exact kC (HR0.out)); (case side2 => exact HC0.out); rintro e w12 ⟨rfl, hb⟩; refine ⟨_, rfl, ?_⟩; have n0_ := am_ (below_step (kZ HB) hb); clear HB; have HB := n0_; clear n0_; (try clear hb); (try clear hb2); (try clear hk); (try clear hi); have p134 : 0 ≤ (t133 : Int) := od_; have q134 : t133 < (l0.length : Int) := od_; obtain ⟨ad134, e134, hx134_0, hx134_1, hx134_2⟩ := at_T45 HR0.out t133 p134 q134; cases e134; replace hx134_0 := pw_cell_below HB.out hx134_0; replace hx134_1 := pw_cell_below HB.out hx134_1; replace hx134_2 := pw_cell_below HB.out hx134_2; replace p134 := eq_true p134; replace q134 := eq_true q134))
   go_ret2
   exact ⟨_, e2_, nl_, kZ HB⟩
  rw [if_pos c8] at H
  have c8b0 : (((rd_T45 l0 t133).f2) == 1) = true := beq_iff_eq.mpr c8
  have c8b1 : (((rd_T45 l0 t133).f2) != 1) = false := bne_eq_false_iff_eq.mpr c8
  clear c8
  replace H := Option.bind_eq_some_iff.mp H
  obtain ⟨⟨t136, t139⟩, A90, H⟩ := H
  replace H : (some (t136, t139)) = some (r1, r2) := H
  have A9 := am_ A90
  clear A90
  simp only [Option.some.injEq, Prod.mk.injEq] at H
  obtain ⟨rfl, rfl⟩ := H
  go_enter Try.func11, Try.ntmps11
  go_wp2_with (first | ((with_reducible refine gate_callee (f := 19) rfl ?_); refine gL (some 9) Try.func19 #[.slice A0 l0.length c0, .string a1] rfl rfl ?_; (with_reducible refine (owned_Of.calls k _ _ l0 a1 t133 _ ?side1 ?side2 A3.out).mono ?_); (case side1 => exact kC (HR0.out)); (case side2 => exact HC0.out); rintro e w10 ⟨rfl, hb⟩; refine ⟨_, rfl, ?_⟩; have n0_ := am_ (below_step (kZ HB) hb); clear HB; have HB := n0_; clear n0_; (try clear hb); (try clear hb2); (try clear hk); (try clear hi); have p134 : 0 ≤ (t133 : Int) := od_; have q134 : t133 < (l0.length : Int) := od_; obtain ⟨ad134, e134, hx134_0, hx134_1, hx134_2⟩ := at_T45 HR0.out t133 p134 q134; cases e134; replace hx134_0 := pw_cell_below HB.out hx134_0; replace hx134_1 := pw_cell_below HB.out hx134_1; replace hx134_2 := pw_cell_below HB.out hx134_2; replace p134 := eq_true p134; replace q134 := eq_true q134; have p135 : 0 ≤ (t133 : Int) := od_; have q135 : t133 < (l0.length : Int) := od_; obtain ⟨ad135, e135, hx135_0, hx135_1, hx135_2⟩ := at_T45 HR0.out t133 p135 q135; obtain rfl : ad134 = ad135 := (by injection e135); replace hx135_0 := pw_cell_below HB.out hx135_0; replace hx135_1 := pw_cell_below HB.out hx135_1; replace hx135_2 := pw_cell_below HB.out hx135_2; replace p135 := eq_true p135; replace q135 := eq_true q135) | ((with_reducible refine gate_callee (f := 32) rfl ?_); refine gL (some 28) Try.func32 #[.slice (some ad134) l0.length c0, .agg #[.string a1, .int .i64 ((rd_T45 l0 t133).f1), .int .i64 2]] rfl rfl ?_; (with_reducible refine (owned_put.calls _ _ l0 a1 ((rd_T45 l0 t133).f1) 2 t136 t139 _ ?side1 ?side2 A9.out).mono ?_); (case side1 => exact kC ((Kd.C_below HR0.out HB.out))); (case side2 => exact HC0.out); rintro e w11 ⟨v137, rfl, ho0, hb⟩; refine ⟨_, rfl, ?_⟩; have n0_ := am_ (Kd.R_lower ho0 (below_size (kZ HB))); have n1_ := am_ (below_step (kZ HB) hb); clear HB; have HO138 := n0_; have HB := n1_; clear n0_ n1_; (try clear hb); (try clear hb2); (try clear hk); (try clear hi); (try clear ho0)))
  go_ret2
  exact ⟨_, e2_, kR HO138, kZ HB⟩
 rw [if_pos c4] at H
 have c4b0 : decide (t133 < 0) = true := decide_eq_true c4
 clear c4
 simp only [Option.some.injEq, Prod.mk.injEq] at H
 obtain ⟨rfl, rfl⟩ := H
 go_enter Try.func11, Try.ntmps11
 go_wp2_with (first | ((with_reducible refine gate_callee (f := 19) rfl ?_); refine gL (some 9) Try.func19 #[.slice A0 l0.length c0, .string a1] rfl rfl ?_; (with_reducible refine (owned_Of.calls k _ _ l0 a1 t133 _ ?side1 ?side2 A3.out).mono ?_); (case side1 => exact kC (HR0.out)); (case side2 => exact HC0.out); rintro e w5 ⟨rfl, hb⟩; refine ⟨_, rfl, ?_⟩; have n0_ := am_ (below_step (kZ HB) hb); clear HB; have HB := n0_; clear n0_; (try clear hb); (try clear hb2); (try clear hk); (try clear hi)))
 go_ret2
 exact ⟨_, e2_, nl_, kZ HB⟩
/-! ### owned_Install: function 13 -/
def owned_Install.j0 : Nat → List (S45) → ByteArray → Int → Bool → Option ((List (S45)) × Bool)
 | 0, _, _, _, _ => none
 | k + 1, x0, x1, x2, x25 => if x25 = true then (some (([] : List (S45)), false)) else ((owned_find.f x0 x1).bind fun bt142 => (if bt142.2 = true then (if 0 ≤ bt142.1 then (if bt142.1 < (x0.length : Int) then (if ((rd_T45 x0 bt142.1).f1) ≥ x2 then (some (([] : List (S45)), false)) else ((owned_put.f x0 x1 x2 1).bind fun bt145 => (some (bt145.1, bt145.2)))) else (none)) else (none)) else ((owned_put.f x0 x1 x2 1).bind fun bt149 => (some (bt149.1, bt149.2)))))
def owned_Install.f (k : Nat) (l0 : List (S45)) (a1 : ByteArray) (a2 : Int) : Option ((List (S45)) × Bool) := (owned_Right.f k l0).bind fun t140 => (if t140 = true then ((path_Right.f a1).bind fun t141 => (if t141 = true then (if a2 < 0 then (owned_Install.j0 k l0 a1 a2 true) else (owned_Install.j0 k l0 a1 a2 (decide (a2 > 281474976710656)))) else (owned_Install.j0 k l0 a1 a2 true))) else (owned_Install.j0 k l0 a1 a2 true))
theorem owned_Install.mono_l : ∀ k, (∀ y0 y1 y2 y3, LeO (owned_Install.j0 k y0 y1 y2 y3) (owned_Install.j0 (k + 1) y0 y1 y2 y3))
 | 0 => fun _ _ _ _ r h => by simp [owned_Install.j0] at h
 | k + 1 => by
  have ih0 := owned_Install.mono_l k
  ·intro y0 y1 y2 y3
   unfold owned_Install.j0
   repeat' first
   | (with_reducible exact ih0 _ _ _ _)
   | (with_reducible exact owned_Right.mono _ _)
   | (with_reducible exact LeO.refl _)
   | (with_reducible exact LeO.none _)
   | (with_reducible refine LeO.ite ?_ ?_)
   | (with_reducible refine LeO.bind ?_ (fun _ => ?_))
   | exact ih0 _ _ _ _
   | exact owned_Right.mono _ _
   | exact LeO.none _
   | refine LeO.ite ?_ ?_
   | refine LeO.bind ?_ (fun _ => ?_)
theorem owned_Install.mono : ∀ a0 a1 a2 k, LeO (owned_Install.f k a0 a1 a2) (owned_Install.f (k + 1) a0 a1 a2) := by
 intro a0 a1 a2 k
 have ih0 := owned_Install.mono_l k
 unfold owned_Install.f
 repeat' first
   | (with_reducible exact ih0 _ _ _ _)
   | (with_reducible exact owned_Right.mono _ _)
   | (with_reducible exact LeO.refl _)
   | (with_reducible exact LeO.none _)
   | (with_reducible refine LeO.ite ?_ ?_)
   | (with_reducible refine LeO.bind ?_ (fun _ => ?_))
   | exact ih0 _ _ _ _
   | exact owned_Right.mono _ _
   | exact LeO.none _
   | refine LeO.ite ?_ ?_
   | refine LeO.bind ?_ (fun _ => ?_)
set_option maxHeartbeats 8000000 in
set_option maxRecDepth 100000 in
theorem owned_Install.calls (k : Nat) (A0 : Option Addr) (c0 : Nat) (l0 : List (S45)) (a1 : ByteArray) (a2 : Int) (r1 : List (S45)) (r2 : Bool) (w : World) (hr0 : Kd.C k45 w A0 l0.length l0) (hc0 : l0.length ≤ c0) (h : owned_Install.f k l0 a1 a2 = some (r1, r2)) :
  Calls Try.prog 13 #[.slice A0 l0.length c0, .string a1, .int .i64 a2] w fun e w' => ∃ v0_ : Value, e = .returned (.tuple #[v0_, .bool r2]) ∧ Kd.R k45 45 w' w.heap.size (fun _ => True) v0_ r1 ∧ Below w.heap.size w w' := by
 have hu45 := Try.underlying45
 have HR0 := am_ hr0
 have HC0 := am_ hc0
 clear hr0 hc0
 have HB := am_ (Below.refl w.heap.size w)
 have H : ((owned_Right.f k l0).bind fun t140 => (if t140 = true then ((path_Right.f a1).bind fun t141 => (if t141 = true then (if a2 < 0 then (owned_Install.j0 k l0 a1 a2 true) else (owned_Install.j0 k l0 a1 a2 (decide (a2 > 281474976710656)))) else (owned_Install.j0 k l0 a1 a2 true))) else (owned_Install.j0 k l0 a1 a2 true))) = some (r1, r2) := h
 clear h
 have HC4 := am_ H
 clear H
 go_enter Try.func13, Try.ntmps13
 go_upto_region 1 with (fail)
 go_cut [25] (fun v25 wc => ∃ (kq : Nat) (x25_3 : Bool), v25 = .bool x25_3 ∧ Aside0 (owned_Install.j0 kq l0 a1 a2 x25_3 = some (r1, r2)) ∧ Aside0 (kq ≤ k) ∧ Aside0 (Below w.heap.size w wc))
 case first =>
  have H := HC4.out
  clear HC4
  replace H := Option.bind_eq_some_iff.mp H
  obtain ⟨t140, A50, H⟩ := H
  replace H : (if t140 = true then ((path_Right.f a1).bind fun t141 => (if t141 = true then (if a2 < 0 then (owned_Install.j0 k l0 a1 a2 true) else (owned_Install.j0 k l0 a1 a2 (decide (a2 > 281474976710656)))) else (owned_Install.j0 k l0 a1 a2 true))) else (owned_Install.j0 k l0 a1 a2 true)) = some (r1, r2) := H
  have A5 := am_ A50
  clear A50
  by_cases c6 : t140 = true
  rotate_left
  ·replace c6 := Bool.eq_false_iff.mpr c6
   subst c6
   have H1 : (owned_Install.j0 k l0 a1 a2 true) = some (r1, r2) := by rw [if_neg (show ¬ (false = true) by decide)] at H; exact H
   clear H
   have H := H1
   clear H1
   have H' := am_ H
   clear H
   go_wp2_with (first | ((with_reducible refine gate_callee (f := 17) rfl ?_); refine gL (some 11) Try.func17 #[.slice A0 l0.length c0] rfl rfl ?_; (with_reducible refine (owned_Right.calls k _ _ l0 false _ ?side1 ?side2 A5.out).mono ?_); (case side1 => exact kC ((Kd.C_below HR0.out HB.out))); (case side2 => exact HC0.out); rintro e w16 ⟨rfl, hb⟩; refine ⟨_, rfl, ?_⟩; have n0_ := am_ (below_step (kZ HB) hb); clear HB; have HB := n0_; clear n0_; (try clear hb); (try clear hb2); (try clear hk); (try clear hi)))
   go_meet
   case rel => exact ⟨_, (true), e1_, H', ⟨by first | omega | exact Nat.le_refl _⟩, ⟨kZ HB⟩⟩
  subst c6
  have H1 : ((path_Right.f a1).bind fun t141 => (if t141 = true then (if a2 < 0 then (owned_Install.j0 k l0 a1 a2 true) else (owned_Install.j0 k l0 a1 a2 (decide (a2 > 281474976710656)))) else (owned_Install.j0 k l0 a1 a2 true))) = some (r1, r2) := by rw [if_pos rfl] at H; exact H
  clear H
  have H := H1
  clear H1
  replace H := Option.bind_eq_some_iff.mp H
  obtain ⟨t141, A70, H⟩ := H
  replace H : (if t141 = true then (if a2 < 0 then (owned_Install.j0 k l0 a1 a2 true) else (owned_Install.j0 k l0 a1 a2 (decide (a2 > 281474976710656)))) else (owned_Install.j0 k l0 a1 a2 true)) = some (r1, r2) := H
  have A7 := am_ A70
  clear A70
  by_cases c8 : t141 = true
  rotate_left
  ·replace c8 := Bool.eq_false_iff.mpr c8
   subst c8
   have H1 : (owned_Install.j0 k l0 a1 a2 true) = some (r1, r2) := by rw [if_neg (show ¬ (false = true) by decide)] at H; exact H
   clear H
   have H := H1
   clear H1
   have H' := am_ H
   clear H
   go_wp2_with (first | ((with_reducible refine gate_callee (f := 17) rfl ?_); refine gL (some 11) Try.func17 #[.slice A0 l0.length c0] rfl rfl ?_; (with_reducible refine (owned_Right.calls k _ _ l0 true _ ?side1 ?side2 A5.out).mono ?_); (case side1 => exact kC ((Kd.C_below HR0.out HB.out))); (case side2 => exact HC0.out); rintro e w14 ⟨rfl, hb⟩; refine ⟨_, rfl, ?_⟩; have n0_ := am_ (below_step (kZ HB) hb); clear HB; have HB := n0_; clear n0_; (try clear hb); (try clear hb2); (try clear hk); (try clear hi)) | (go_at_call 35; (with_reducible refine (path_Right.calls a1 false _ A7.out).mono ?_); rintro e w15 ⟨rfl, hb⟩; have n0_ := am_ (below_step (kZ HB) hb); clear HB; have HB := n0_; clear n0_; (try clear hb); (try clear hb2); (try clear hk); (try clear hi)))
   go_meet
   case rel => exact ⟨_, (true), e1_, H', ⟨by first | omega | exact Nat.le_refl _⟩, ⟨kZ HB⟩⟩
  subst c8
  have H1 : (if a2 < 0 then (owned_Install.j0 k l0 a1 a2 true) else (owned_Install.j0 k l0 a1 a2 (decide (a2 > 281474976710656)))) = some (r1, r2) := by rw [if_pos rfl] at H; exact H
  clear H
  have H := H1
  clear H1
  by_cases c9 : a2 < 0
  rotate_left
  ·rw [if_neg c9] at H
   have c9b0 : decide (a2 < 0) = false := decide_eq_false c9
   clear c9
   (first | rw [c9b0] | (simp only [i64_w, i32_w]; rw [c9b0]) | skip)
   have H' := am_ H
   clear H
   go_wp2_with (first | ((with_reducible refine gate_callee (f := 17) rfl ?_); refine gL (some 11) Try.func17 #[.slice A0 l0.length c0] rfl rfl ?_; (with_reducible refine (owned_Right.calls k _ _ l0 true _ ?side1 ?side2 A5.out).mono ?_); (case side1 => exact kC ((Kd.C_below HR0.out HB.out))); (case side2 => exact HC0.out); rintro e w12 ⟨rfl, hb⟩; refine ⟨_, rfl, ?_⟩; have n0_ := am_ (below_step (kZ HB) hb); clear HB; have HB := n0_; clear n0_; (try clear hb); (try clear hb2); (try clear hk); (try clear hi)) | (go_at_call 35; (with_reducible refine (path_Right.calls a1 true _ A7.out).mono ?_); rintro e w13 ⟨rfl, hb⟩; have n0_ := am_ (below_step (kZ HB) hb); clear HB; have HB := n0_; clear n0_; (try clear hb); (try clear hb2); (try clear hk); (try clear hi)))
   go_meet
   case rel => exact ⟨_, (decide (a2 > 281474976710656)), e1_, H', ⟨by first | omega | exact Nat.le_refl _⟩, ⟨kZ HB⟩⟩
  rw [if_pos c9] at H
  have c9b0 : decide (a2 < 0) = true := decide_eq_true c9
  clear c9
  (first | rw [c9b0] | (simp only [i64_w, i32_w]; rw [c9b0]) | skip)
  have H' := am_ H
  clear H
  go_wp2_with (first | ((with_reducible refine gate_callee (f := 17) rfl ?_); refine gL (some 11) Try.func17 #[.slice A0 l0.length c0] rfl rfl ?_; (with_reducible refine (owned_Right.calls k _ _ l0 true _ ?side1 ?side2 A5.out).mono ?_); (case side1 => exact kC ((Kd.C_below HR0.out HB.out))); (case side2 => exact HC0.out); rintro e w10 ⟨rfl, hb⟩; refine ⟨_, rfl, ?_⟩; have n0_ := am_ (below_step (kZ HB) hb); clear HB; have HB := n0_; clear n0_; (try clear hb); (try clear hb2); (try clear hk); (try clear hi)) | (go_at_call 35; (with_reducible refine (path_Right.calls a1 true _ A7.out).mono ?_); rintro e w11 ⟨rfl, hb⟩; have n0_ := am_ (below_step (kZ HB) hb); clear HB; have HB := n0_; clear n0_; (try clear hb); (try clear hb2); (try clear hk); (try clear hi)))
  go_meet
  case rel => exact ⟨_, (true), e1_, H', ⟨by first | omega | exact Nat.le_refl _⟩, ⟨kZ HB⟩⟩
 case rest =>
  clear HC4
  try clear p2
  try clear c9b0
  obtain ⟨kq, x25_3, rfl, HA, HJ3, HB⟩ := hcut
  cases kq with
  | zero => exact absurd HA.out (by simp [owned_Install.j0])
  | succ kj3 =>
   have H := HA.out
   clear HA
   simp only [owned_Install.j0] at H
   by_cases c17 : x25_3 = true
   rotate_left
   ·replace c17 := Bool.eq_false_iff.mpr c17
    subst c17
    have H1 : ((owned_find.f l0 a1).bind fun bt142 => (if bt142.2 = true then (if 0 ≤ bt142.1 then (if bt142.1 < (l0.length : Int) then (if ((rd_T45 l0 bt142.1).f1) ≥ a2 then (some (([] : List (S45)), false)) else ((owned_put.f l0 a1 a2 1).bind fun bt145 => (some (bt145.1, bt145.2)))) else (none)) else (none)) else ((owned_put.f l0 a1 a2 1).bind fun bt149 => (some (bt149.1, bt149.2))))) = some (r1, r2) := by rw [if_neg (show ¬ (false = true) by decide)] at H; exact H
    clear H
    have H := H1
    clear H1
    replace H := Option.bind_eq_some_iff.mp H
    obtain ⟨⟨t142, t143⟩, A180, H⟩ := H
    replace H : (if t143 = true then (if 0 ≤ t142 then (if t142 < (l0.length : Int) then (if ((rd_T45 l0 t142).f1) ≥ a2 then (some (([] : List (S45)), false)) else ((owned_put.f l0 a1 a2 1).bind fun bt145 => (some (bt145.1, bt145.2)))) else (none)) else (none)) else ((owned_put.f l0 a1 a2 1).bind fun bt149 => (some (bt149.1, bt149.2)))) = some (r1, r2) := H
    have A18 := am_ A180
    clear A180
    by_cases c19 : t143 = true
    rotate_left
    ·replace c19 := Bool.eq_false_iff.mpr c19
     subst c19
     have H1 : ((owned_put.f l0 a1 a2 1).bind fun bt149 => (some (bt149.1, bt149.2))) = some (r1, r2) := by rw [if_neg (show ¬ (false = true) by decide)] at H; exact H
     clear H
     have H := H1
     clear H1
     replace H := Option.bind_eq_some_iff.mp H
     obtain ⟨⟨t149, t152⟩, A270, H⟩ := H
     replace H : (some (t149, t152)) = some (r1, r2) := H
     have A27 := am_ A270
     clear A270
     simp only [Option.some.injEq, Prod.mk.injEq] at H
     obtain ⟨rfl, rfl⟩ := H
     go_wp2_with (first | ((with_reducible refine gate_callee (f := 36) rfl ?_); refine gL (some 29) Try.func36 #[.slice A0 l0.length c0, .string a1] rfl rfl ?_; (with_reducible refine (owned_find.calls _ _ l0 a1 t142 false _ ?side1 ?side2 A18.out).mono ?_); (case side1 => exact kC ((Kd.C_below HR0.out HB.out))); (case side2 => exact HC0.out); rintro e w28 ⟨rfl, hb⟩; refine ⟨_, rfl, ?_⟩; have n0_ := am_ (below_step (kZ HB) hb); clear HB; have HB := n0_; clear n0_; (try clear hb); (try clear hb2); (try clear hk); (try clear hi)) | ((with_reducible refine gate_callee (f := 32) rfl ?_); refine gL (some 46) Try.func32 #[.slice A0 l0.length c0, .agg #[.string a1, .int .i64 a2, .int .i64 1]] rfl rfl ?_; (with_reducible refine (owned_put.calls _ _ l0 a1 a2 1 t149 t152 _ ?side1 ?side2 A27.out).mono ?_); (case side1 => exact kC ((Kd.C_below HR0.out HB.out))); (case side2 => exact HC0.out); rintro e w29 ⟨v150, rfl, ho0, hb⟩; refine ⟨_, rfl, ?_⟩; have n0_ := am_ (Kd.R_lower ho0 (below_size (kZ HB))); have n1_ := am_ (below_step (kZ HB) hb); clear HB; have HO151 := n0_; have HB := n1_; clear n0_ n1_; (try clear hb); (try clear hb2); (try clear hk); (try clear hi); (try clear ho0)))
     go_ret2
     exact ⟨_, e2_, kR HO151, kZ HB⟩

    subst c19
    have H1 : (if 0 ≤ t142 then (if t142 < (l0.length : Int) then (if ((rd_T45 l0 t142).f1) ≥ a2 then (some (([] : List (S45)), false)) else ((owned_put.f l0 a1 a2 1).bind fun bt145 => (some (bt145.1, bt145.2)))) else (none)) else (none)) = some (r1, r2) := by rw [if_pos rfl] at H; exact H
    clear H
    have H := H1
    clear H1
    by_cases c20 : 0 ≤ t142
    rotate_left
    ·rw [if_neg c20] at H
     exact absurd H (by simp)
    rw [if_pos c20] at H
    have c20b0 : decide (0 ≤ t142) = true := decide_eq_true c20
    clear c20
    by_cases c21 : t142 < (l0.length : Int)
    rotate_left
    ·rw [if_neg c21] at H
     exact absurd H (by simp)
    rw [if_pos c21] at H
    have c21b0 : decide (t142 < (l0.length : Int)) = true := decide_eq_true c21
    clear c21
    by_cases c22 : ((rd_T45 l0 t142).f1) ≥ a2
    rotate_left
    ·rw [if_neg c22] at H
     have c22b0 : decide (a2 ≤ ((rd_T45 l0 t142).f1)) = false := decide_eq_false c22
     clear c22
     replace H := Option.bind_eq_some_iff.mp H
     obtain ⟨⟨t145, t148⟩, A240, H⟩ := H
     replace H : (some (t145, t148)) = some (r1, r2) := H
     have A24 := am_ A240
     clear A240
     simp only [Option.some.injEq, Prod.mk.injEq] at H
     obtain ⟨rfl, rfl⟩ := H
     go_wp2_with (first | ((with_reducible refine gate_callee (f := 36) rfl ?_); refine gL (some 29) Try.func36 #[.slice A0 l0.length c0, .string a1] rfl rfl ?_; (with_reducible refine (owned_find.calls _ _ l0 a1 t142 true _ ?side1 ?side2 A18.out).mono ?_); (case side1 => exact kC ((Kd.C_below HR0.out HB.out))); (case side2 => exact HC0.out); rintro e w25 ⟨rfl, hb⟩; refine ⟨_, rfl, ?_⟩; have n0_ := am_ (below_step (kZ HB) hb); clear HB; have HB := n0_; clear n0_; (try clear hb); (try clear hb2); (try clear hk); (try clear hi); have p144 : 0 ≤ (t142 : Int) := od_; have q144 : t142 < (l0.length : Int) := od_; obtain ⟨ad144, e144, hx144_0, hx144_1, hx144_2⟩ := at_T45 HR0.out t142 p144 q144; cases e144; replace hx144_0 := pw_cell_below HB.out hx144_0; replace hx144_1 := pw_cell_below HB.out hx144_1; replace hx144_2 := pw_cell_below HB.out hx144_2; replace p144 := eq_true p144; replace q144 := eq_true q144) | ((with_reducible refine gate_callee (f := 32) rfl ?_); refine gL (some 46) Try.func32 #[.slice (some ad144) l0.length c0, .agg #[.string a1, .int .i64 a2, .int .i64 1]] rfl rfl ?_; (with_reducible refine (owned_put.calls _ _ l0 a1 a2 1 t145 t148 _ ?side1 ?side2 A24.out).mono ?_); (case side1 => exact kC ((Kd.C_below HR0.out HB.out))); (case side2 => exact HC0.out); rintro e w26 ⟨v146, rfl, ho0, hb⟩; refine ⟨_, rfl, ?_⟩; have n0_ := am_ (Kd.R_lower ho0 (below_size (kZ HB))); have n1_ := am_ (below_step (kZ HB) hb); clear HB; have HO147 := n0_; have HB := n1_; clear n0_ n1_; (try clear hb); (try clear hb2); (try clear hk); (try clear hi); (try clear ho0)))
     go_ret2
     exact ⟨_, e2_, kR HO147, kZ HB⟩
    rw [if_pos c22] at H
    have c22b0 : decide (a2 ≤ ((rd_T45 l0 t142).f1)) = true := decide_eq_true c22
    clear c22
    simp only [Option.some.injEq, Prod.mk.injEq] at H
    obtain ⟨rfl, rfl⟩ := H
    go_wp2_with (first | ((with_reducible refine gate_callee (f := 36) rfl ?_); refine gL (some 29) Try.func36 #[.slice A0 l0.length c0, .string a1] rfl rfl ?_; (with_reducible refine (owned_find.calls _ _ l0 a1 t142 true _ ?side1 ?side2 A18.out).mono ?_); (case side1 => exact kC ((Kd.C_below HR0.out HB.out))); (case side2 => exact HC0.out); rintro e w23 ⟨rfl, hb⟩; refine ⟨_, rfl, ?_⟩; have n0_ := am_ (below_step (kZ HB) hb); clear HB; have HB := n0_; clear n0_; (try clear hb); (try clear hb2); (try clear hk); (try clear hi); have p144 : 0 ≤ (t142 : Int) := od_; have q144 : t142 < (l0.length : Int) := od_; obtain ⟨ad144, e144, hx144_0, hx144_1, hx144_2⟩ := at_T45 HR0.out t142 p144 q144; cases e144; replace hx144_0 := pw_cell_below HB.out hx144_0; replace hx144_1 := pw_cell_below HB.out hx144_1; replace hx144_2 := pw_cell_below HB.out hx144_2; replace p144 := eq_true p144; replace q144 := eq_true q144))
    go_ret2
    exact ⟨_, e2_, nl_, kZ HB⟩
   subst c17
   have H1 : (some (([] : List (S45)), false)) = some (r1, r2) := by rw [if_pos rfl] at H; exact H
   clear H
   have H := H1
   clear H1
   simp only [Option.some.injEq, Prod.mk.injEq] at H
   obtain ⟨rfl, rfl⟩ := H
   go_wp2
   go_ret2
   exact ⟨_, e2_, nl_, kZ HB⟩
/-! ### owned_Drop: function 15 -/
def owned_Drop.f (k : Nat) (l0 : List (S45)) (a1 : ByteArray) (a2 : Int) : Option ((List (S45)) × Bool) := (owned_Right.f k l0).bind fun t153 => (if t153 = true then ((owned_find.f l0 a1).bind fun bt154 => (if bt154.2 = true then (if 0 ≤ bt154.1 then (if bt154.1 < (l0.length : Int) then (if ((rd_T45 l0 bt154.1).f2) = 2 then (if ((rd_T45 l0 bt154.1).f1) = a2 then ((owned_put.f l0 a1 a2 3).bind fun bt158 => (some (bt158.1, bt158.2))) else (some (([] : List (S45)), false))) else (some (([] : List (S45)), false))) else (none)) else (none)) else (some (([] : List (S45)), false)))) else (some (([] : List (S45)), false)))
theorem owned_Drop.mono : ∀ a0 a1 a2 k, LeO (owned_Drop.f k a0 a1 a2) (owned_Drop.f (k + 1) a0 a1 a2) := by
 intro a0 a1 a2 k
 unfold owned_Drop.f
 repeat' first
   | (with_reducible exact owned_Right.mono _ _)
   | (with_reducible exact LeO.refl _)
   | (with_reducible exact LeO.none _)
   | (with_reducible refine LeO.ite ?_ ?_)
   | (with_reducible refine LeO.bind ?_ (fun _ => ?_))
   | exact owned_Right.mono _ _
   | exact LeO.none _
   | refine LeO.ite ?_ ?_
   | refine LeO.bind ?_ (fun _ => ?_)
set_option maxHeartbeats 8000000 in
set_option maxRecDepth 100000 in
theorem owned_Drop.calls (k : Nat) (A0 : Option Addr) (c0 : Nat) (l0 : List (S45)) (a1 : ByteArray) (a2 : Int) (r1 : List (S45)) (r2 : Bool) (w : World) (hr0 : Kd.C k45 w A0 l0.length l0) (hc0 : l0.length ≤ c0) (h : owned_Drop.f k l0 a1 a2 = some (r1, r2)) :
  Calls Try.prog 15 #[.slice A0 l0.length c0, .string a1, .int .i64 a2] w fun e w' => ∃ v0_ : Value, e = .returned (.tuple #[v0_, .bool r2]) ∧ Kd.R k45 45 w' w.heap.size (fun _ => True) v0_ r1 ∧ Below w.heap.size w w' := by
 have hu45 := Try.underlying45
 have HR0 := am_ hr0
 have HC0 := am_ hc0
 clear hr0 hc0
 have HB := am_ (Below.refl w.heap.size w)
 have H : ((owned_Right.f k l0).bind fun t153 => (if t153 = true then ((owned_find.f l0 a1).bind fun bt154 => (if bt154.2 = true then (if 0 ≤ bt154.1 then (if bt154.1 < (l0.length : Int) then (if ((rd_T45 l0 bt154.1).f2) = 2 then (if ((rd_T45 l0 bt154.1).f1) = a2 then ((owned_put.f l0 a1 a2 3).bind fun bt158 => (some (bt158.1, bt158.2))) else (some (([] : List (S45)), false))) else (some (([] : List (S45)), false))) else (none)) else (none)) else (some (([] : List (S45)), false)))) else (some (([] : List (S45)), false)))) = some (r1, r2) := h
 clear h
 replace H := Option.bind_eq_some_iff.mp H
 obtain ⟨t153, A40, H⟩ := H
 replace H : (if t153 = true then ((owned_find.f l0 a1).bind fun bt154 => (if bt154.2 = true then (if 0 ≤ bt154.1 then (if bt154.1 < (l0.length : Int) then (if ((rd_T45 l0 bt154.1).f2) = 2 then (if ((rd_T45 l0 bt154.1).f1) = a2 then ((owned_put.f l0 a1 a2 3).bind fun bt158 => (some (bt158.1, bt158.2))) else (some (([] : List (S45)), false))) else (some (([] : List (S45)), false))) else (none)) else (none)) else (some (([] : List (S45)), false)))) else (some (([] : List (S45)), false))) = some (r1, r2) := H
 have A4 := am_ A40
 clear A40
 by_cases c5 : t153 = true
 rotate_left
 ·replace c5 := Bool.eq_false_iff.mpr c5
  subst c5
  have H1 : (some (([] : List (S45)), false)) = some (r1, r2) := by rw [if_neg (show ¬ (false = true) by decide)] at H; exact H
  clear H
  have H := H1
  clear H1
  simp only [Option.some.injEq, Prod.mk.injEq] at H
  obtain ⟨rfl, rfl⟩ := H
  go_enter Try.func15, Try.ntmps15
  go_wp2_with (first | ((with_reducible refine gate_callee (f := 17) rfl ?_); refine gL (some 11) Try.func17 #[.slice A0 l0.length c0] rfl rfl ?_; (with_reducible refine (owned_Right.calls k _ _ l0 false _ ?side1 ?side2 A4.out).mono ?_); (case side1 => exact kC (HR0.out)); (case side2 => exact HC0.out); rintro e w22 ⟨rfl, hb⟩; refine ⟨_, rfl, ?_⟩; have n0_ := am_ (below_step (kZ HB) hb); clear HB; have HB := n0_; clear n0_; (try clear hb); (try clear hb2); (try clear hk); (try clear hi)))
  go_ret2
  exact ⟨_, e2_, nl_, kZ HB⟩

 subst c5
 have H1 : ((owned_find.f l0 a1).bind fun bt154 => (if bt154.2 = true then (if 0 ≤ bt154.1 then (if bt154.1 < (l0.length : Int) then (if ((rd_T45 l0 bt154.1).f2) = 2 then (if ((rd_T45 l0 bt154.1).f1) = a2 then ((owned_put.f l0 a1 a2 3).bind fun bt158 => (some (bt158.1, bt158.2))) else (some (([] : List (S45)), false))) else (some (([] : List (S45)), false))) else (none)) else (none)) else (some (([] : List (S45)), false)))) = some (r1, r2) := by rw [if_pos rfl] at H; exact H
 clear H
 have H := H1
 clear H1
 replace H := Option.bind_eq_some_iff.mp H
 obtain ⟨⟨t154, t155⟩, A60, H⟩ := H
 replace H : (if t155 = true then (if 0 ≤ t154 then (if t154 < (l0.length : Int) then (if ((rd_T45 l0 t154).f2) = 2 then (if ((rd_T45 l0 t154).f1) = a2 then ((owned_put.f l0 a1 a2 3).bind fun bt158 => (some (bt158.1, bt158.2))) else (some (([] : List (S45)), false))) else (some (([] : List (S45)), false))) else (none)) else (none)) else (some (([] : List (S45)), false))) = some (r1, r2) := H
 have A6 := am_ A60
 clear A60
 by_cases c7 : t155 = true
 rotate_left
 ·replace c7 := Bool.eq_false_iff.mpr c7
  subst c7
  have H1 : (some (([] : List (S45)), false)) = some (r1, r2) := by rw [if_neg (show ¬ (false = true) by decide)] at H; exact H
  clear H
  have H := H1
  clear H1
  simp only [Option.some.injEq, Prod.mk.injEq] at H
  obtain ⟨rfl, rfl⟩ := H
  go_enter Try.func15, Try.ntmps15
  go_wp2_with (first | ((with_reducible refine gate_callee (f := 17) rfl ?_); refine gL (some 11) Try.func17 #[.slice A0 l0.length c0] rfl rfl ?_; (with_reducible refine (owned_Right.calls k _ _ l0 true _ ?side1 ?side2 A4.out).mono ?_); (case side1 => exact kC (HR0.out)); (case side2 => exact HC0.out); rintro e w20 ⟨rfl, hb⟩; refine ⟨_, rfl, ?_⟩; have n0_ := am_ (below_step (kZ HB) hb); clear HB; have HB := n0_; clear n0_; (try clear hb); (try clear hb2); (try clear hk); (try clear hi)) | ((with_reducible refine gate_callee (f := 36) rfl ?_); refine gL (some 16) Try.func36 #[.slice A0 l0.length c0, .string a1] rfl rfl ?_; (with_reducible refine (owned_find.calls _ _ l0 a1 t154 false _ ?side1 ?side2 A6.out).mono ?_); (case side1 => exact kC ((Kd.C_below HR0.out HB.out))); (case side2 => exact HC0.out); rintro e w21 ⟨rfl, hb⟩; refine ⟨_, rfl, ?_⟩; have n0_ := am_ (below_step (kZ HB) hb); clear HB; have HB := n0_; clear n0_; (try clear hb); (try clear hb2); (try clear hk); (try clear hi)))
  go_ret2
  exact ⟨_, e2_, nl_, kZ HB⟩
 subst c7
 have H1 : (if 0 ≤ t154 then (if t154 < (l0.length : Int) then (if ((rd_T45 l0 t154).f2) = 2 then (if ((rd_T45 l0 t154).f1) = a2 then ((owned_put.f l0 a1 a2 3).bind fun bt158 => (some (bt158.1, bt158.2))) else (some (([] : List (S45)), false))) else (some (([] : List (S45)), false))) else (none)) else (none)) = some (r1, r2) := by rw [if_pos rfl] at H; exact H
 clear H
 have H := H1
 clear H1
 by_cases c8 : 0 ≤ t154
 rotate_left
 ·rw [if_neg c8] at H
  exact absurd H (by simp)
 rw [if_pos c8] at H
 have c8b0 : decide (0 ≤ t154) = true := decide_eq_true c8
 clear c8
 by_cases c9 : t154 < (l0.length : Int)
 rotate_left
 ·rw [if_neg c9] at H
  exact absurd H (by simp)
 rw [if_pos c9] at H
 have c9b0 : decide (t154 < (l0.length : Int)) = true := decide_eq_true c9
 clear c9
 by_cases c10 : ((rd_T45 l0 t154).f2) = 2
 rotate_left
 ·rw [if_neg c10] at H
  have c10b0 : (((rd_T45 l0 t154).f2) == 2) = false := beq_eq_false_iff_ne.mpr c10
  have c10b1 : (((rd_T45 l0 t154).f2) != 2) = true := bne_iff_ne.mpr c10
  simp only [Option.some.injEq, Prod.mk.injEq] at H
  obtain ⟨rfl, rfl⟩ := H
  go_enter Try.func15, Try.ntmps15
  go_wp2_with (first | ((with_reducible refine gate_callee (f := 17) rfl ?_); refine gL (some 11) Try.func17 #[.slice A0 l0.length c0] rfl rfl ?_; (with_reducible refine (owned_Right.calls k _ _ l0 true _ ?side1 ?side2 A4.out).mono ?_); (case side1 => exact kC (HR0.out)); (case side2 => exact HC0.out); rintro e w18 ⟨rfl, hb⟩; refine ⟨_, rfl, ?_⟩; have n0_ := am_ (below_step (kZ HB) hb); clear HB; have HB := n0_; clear n0_; (try clear hb); (try clear hb2); (try clear hk); (try clear hi)) | ((with_reducible refine gate_callee (f := 36) rfl ?_); refine gL (some 16) Try.func36 #[.slice A0 l0.length c0, .string a1] rfl rfl ?_; (with_reducible refine (owned_find.calls _ _ l0 a1 t154 true _ ?side1 ?side2 A6.out).mono ?_); (case side1 => exact kC ((Kd.C_below HR0.out HB.out))); (case side2 => exact HC0.out); rintro e w19 ⟨rfl, hb⟩; refine ⟨_, rfl, ?_⟩; have n0_ := am_ (below_step (kZ HB) hb); clear HB; have HB := n0_; clear n0_; (try clear hb); (try clear hb2); (try clear hk); (try clear hi); have p156 : 0 ≤ (t154 : Int) := od_; have q156 : t154 < (l0.length : Int) := od_; obtain ⟨ad156, e156, hx156_0, hx156_1, hx156_2⟩ := at_T45 HR0.out t154 p156 q156; cases e156; replace hx156_0 := pw_cell_below HB.out hx156_0; replace hx156_1 := pw_cell_below HB.out hx156_1; replace hx156_2 := pw_cell_below HB.out hx156_2; replace p156 := eq_true p156; replace q156 := eq_true q156))
  go_ret2
  exact ⟨_, e2_, nl_, kZ HB⟩
 rw [if_pos c10] at H
 have c10b0 : (((rd_T45 l0 t154).f2) == 2) = true := beq_iff_eq.mpr c10
 have c10b1 : (((rd_T45 l0 t154).f2) != 2) = false := bne_eq_false_iff_eq.mpr c10
 clear c10
 by_cases c11 : ((rd_T45 l0 t154).f1) = a2
 rotate_left
 ·rw [if_neg c11] at H
  have c11b0 : (((rd_T45 l0 t154).f1) == a2) = false := beq_eq_false_iff_ne.mpr c11
  have c11b1 : (((rd_T45 l0 t154).f1) != a2) = true := bne_iff_ne.mpr c11
  simp only [Option.some.injEq, Prod.mk.injEq] at H
  obtain ⟨rfl, rfl⟩ := H
  go_enter Try.func15, Try.ntmps15
  go_wp2_with (first | ((with_reducible refine gate_callee (f := 17) rfl ?_); refine gL (some 11) Try.func17 #[.slice A0 l0.length c0] rfl rfl ?_; (with_reducible refine (owned_Right.calls k _ _ l0 true _ ?side1 ?side2 A4.out).mono ?_); (case side1 => exact kC (HR0.out)); (case side2 => exact HC0.out); rintro e w16 ⟨rfl, hb⟩; refine ⟨_, rfl, ?_⟩; have n0_ := am_ (below_step (kZ HB) hb); clear HB; have HB := n0_; clear n0_; (try clear hb); (try clear hb2); (try clear hk); (try clear hi)) | ((with_reducible refine gate_callee (f := 36) rfl ?_); refine gL (some 16) Try.func36 #[.slice A0 l0.length c0, .string a1] rfl rfl ?_; (with_reducible refine (owned_find.calls _ _ l0 a1 t154 true _ ?side1 ?side2 A6.out).mono ?_); (case side1 => exact kC ((Kd.C_below HR0.out HB.out))); (case side2 => exact HC0.out); rintro e w17 ⟨rfl, hb⟩; refine ⟨_, rfl, ?_⟩; have n0_ := am_ (below_step (kZ HB) hb); clear HB; have HB := n0_; clear n0_; (try clear hb); (try clear hb2); (try clear hk); (try clear hi); have p156 : 0 ≤ (t154 : Int) := od_; have q156 : t154 < (l0.length : Int) := od_; obtain ⟨ad156, e156, hx156_0, hx156_1, hx156_2⟩ := at_T45 HR0.out t154 p156 q156; cases e156; replace hx156_0 := pw_cell_below HB.out hx156_0; replace hx156_1 := pw_cell_below HB.out hx156_1; replace hx156_2 := pw_cell_below HB.out hx156_2; replace p156 := eq_true p156; replace q156 := eq_true q156; have p157 : 0 ≤ (t154 : Int) := od_; have q157 : t154 < (l0.length : Int) := od_; obtain ⟨ad157, e157, hx157_0, hx157_1, hx157_2⟩ := at_T45 HR0.out t154 p157 q157; obtain rfl : ad156 = ad157 := (by injection e157); replace hx157_0 := pw_cell_below HB.out hx157_0; replace hx157_1 := pw_cell_below HB.out hx157_1; replace hx157_2 := pw_cell_below HB.out hx157_2; replace p157 := eq_true p157; replace q157 := eq_true q157))
  go_ret2
  exact ⟨_, e2_, nl_, kZ HB⟩
 rw [if_pos c11] at H
 have c11b0 : (((rd_T45 l0 t154).f1) == a2) = true := beq_iff_eq.mpr c11
 have c11b1 : (((rd_T45 l0 t154).f1) != a2) = false := bne_eq_false_iff_eq.mpr c11
 clear c11
 replace H := Option.bind_eq_some_iff.mp H
 obtain ⟨⟨t158, t161⟩, A120, H⟩ := H
 replace H : (some (t158, t161)) = some (r1, r2) := H
 have A12 := am_ A120
 clear A120
 simp only [Option.some.injEq, Prod.mk.injEq] at H
 obtain ⟨rfl, rfl⟩ := H
 go_enter Try.func15, Try.ntmps15
 go_wp2_with (first | ((with_reducible refine gate_callee (f := 17) rfl ?_); refine gL (some 11) Try.func17 #[.slice A0 l0.length c0] rfl rfl ?_; (with_reducible refine (owned_Right.calls k _ _ l0 true _ ?side1 ?side2 A4.out).mono ?_); (case side1 => exact kC (HR0.out)); (case side2 => exact HC0.out); rintro e w13 ⟨rfl, hb⟩; refine ⟨_, rfl, ?_⟩; have n0_ := am_ (below_step (kZ HB) hb); clear HB; have HB := n0_; clear n0_; (try clear hb); (try clear hb2); (try clear hk); (try clear hi)) | ((with_reducible refine gate_callee (f := 36) rfl ?_); refine gL (some 16) Try.func36 #[.slice A0 l0.length c0, .string a1] rfl rfl ?_; (with_reducible refine (owned_find.calls _ _ l0 a1 t154 true _ ?side1 ?side2 A6.out).mono ?_); (case side1 => exact kC ((Kd.C_below HR0.out HB.out))); (case side2 => exact HC0.out); rintro e w14 ⟨rfl, hb⟩; refine ⟨_, rfl, ?_⟩; have n0_ := am_ (below_step (kZ HB) hb); clear HB; have HB := n0_; clear n0_; (try clear hb); (try clear hb2); (try clear hk); (try clear hi); have p156 : 0 ≤ (t154 : Int) := od_; have q156 : t154 < (l0.length : Int) := od_; obtain ⟨ad156, e156, hx156_0, hx156_1, hx156_2⟩ := at_T45 HR0.out t154 p156 q156; cases e156; replace hx156_0 := pw_cell_below HB.out hx156_0; replace hx156_1 := pw_cell_below HB.out hx156_1; replace hx156_2 := pw_cell_below HB.out hx156_2; replace p156 := eq_true p156; replace q156 := eq_true q156; have p157 : 0 ≤ (t154 : Int) := od_; have q157 : t154 < (l0.length : Int) := od_; obtain ⟨ad157, e157, hx157_0, hx157_1, hx157_2⟩ := at_T45 HR0.out t154 p157 q157; obtain rfl : ad156 = ad157 := (by injection e157); replace hx157_0 := pw_cell_below HB.out hx157_0; replace hx157_1 := pw_cell_below HB.out hx157_1; replace hx157_2 := pw_cell_below HB.out hx157_2; replace p157 := eq_true p157; replace q157 := eq_true q157) | ((with_reducible refine gate_callee (f := 32) rfl ?_); refine gL (some 42) Try.func32 #[.slice (some ad156) l0.length c0, .agg #[.string a1, .int .i64 a2, .int .i64 3]] rfl rfl ?_; (with_reducible refine (owned_put.calls _ _ l0 a1 a2 3 t158 t161 _ ?side1 ?side2 A12.out).mono ?_); (case side1 => exact kC ((Kd.C_below HR0.out HB.out))); (case side2 => exact HC0.out); rintro e w15 ⟨v159, rfl, ho0, hb⟩; refine ⟨_, rfl, ?_⟩; have n0_ := am_ (Kd.R_lower ho0 (below_size (kZ HB))); have n1_ := am_ (below_step (kZ HB) hb); clear HB; have HO160 := n0_; have HB := n1_; clear n0_ n1_; (try clear hb); (try clear hb2); (try clear hk); (try clear hi); (try clear ho0)))
 go_ret2
 exact ⟨_, e2_, kR HO160, kZ HB⟩
/-! ### owned_State: function 21 -/
def owned_State.f (k : Nat) (l0 : List (S45)) (a1 : ByteArray) : Option (Int) := (owned_Of.f k l0 a1).bind fun t162 => (if t162 ≥ 0 then (if 0 ≤ t162 then (if t162 < (l0.length : Int) then (some ((rd_T45 l0 t162).f2)) else (none)) else (none)) else (some 3))
theorem owned_State.mono : ∀ a0 a1 k, LeO (owned_State.f k a0 a1) (owned_State.f (k + 1) a0 a1) := by
 intro a0 a1 k
 unfold owned_State.f
 repeat' first
   | (with_reducible exact owned_Of.mono _ _ _)
   | (with_reducible exact LeO.refl _)
   | (with_reducible exact LeO.none _)
   | (with_reducible refine LeO.ite ?_ ?_)
   | (with_reducible refine LeO.bind ?_ (fun _ => ?_))
   | exact owned_Of.mono _ _ _
   | exact LeO.none _
   | refine LeO.ite ?_ ?_
   | refine LeO.bind ?_ (fun _ => ?_)
set_option maxHeartbeats 8000000 in
set_option maxRecDepth 100000 in
theorem owned_State.calls (k : Nat) (A0 : Option Addr) (c0 : Nat) (l0 : List (S45)) (a1 : ByteArray) (r : Int) (w : World) (hr0 : Kd.C k45 w A0 l0.length l0) (hc0 : l0.length ≤ c0) (h : owned_State.f k l0 a1 = some r) :
  Calls Try.prog 21 #[.slice A0 l0.length c0, .string a1] w fun e w' => e = .returned (.int .i64 r) ∧ Below w.heap.size w w' := by
 have HR0 := am_ hr0
 have HC0 := am_ hc0
 clear hr0 hc0
 have HB := am_ (Below.refl w.heap.size w)
 have H : ((owned_Of.f k l0 a1).bind fun t162 => (if t162 ≥ 0 then (if 0 ≤ t162 then (if t162 < (l0.length : Int) then (some ((rd_T45 l0 t162).f2)) else (none)) else (none)) else (some 3))) = some r := h
 clear h
 replace H := Option.bind_eq_some_iff.mp H
 obtain ⟨t162, A30, H⟩ := H
 replace H : (if t162 ≥ 0 then (if 0 ≤ t162 then (if t162 < (l0.length : Int) then (some ((rd_T45 l0 t162).f2)) else (none)) else (none)) else (some 3)) = some r := H
 have A3 := am_ A30
 clear A30
 by_cases c4 : t162 ≥ 0
 rotate_left
 ·rw [if_neg c4] at H
  have c4b0 : decide (0 ≤ t162) = false := decide_eq_false c4
  clear c4
  obtain rfl := Option.some.inj H
  go_enter Try.func21, Try.ntmps21
  go_wp2_with (first | ((with_reducible refine gate_callee (f := 19) rfl ?_); refine gL (some 8) Try.func19 #[.slice A0 l0.length c0, .string a1] rfl rfl ?_; (with_reducible refine (owned_Of.calls k _ _ l0 a1 t162 _ ?side1 ?side2 A3.out).mono ?_); (case side1 => exact kC (HR0.out)); (case side2 => exact HC0.out); rintro e w8 ⟨rfl, hb⟩; refine ⟨_, rfl, ?_⟩; have n0_ := am_ (below_step (kZ HB) hb); clear HB; have HB := n0_; clear n0_; (try clear hb); (try clear hb2); (try clear hk); (try clear hi)))
  go_ret
  exact ⟨e2_, kZ HB⟩

 rw [if_pos c4] at H
 have c4b0 : decide (0 ≤ t162) = true := decide_eq_true c4
 clear c4
 by_cases c5 : 0 ≤ t162
 rotate_left
 ·rw [if_neg c5] at H
  exact absurd H (by simp)
 rw [if_pos c5] at H
 have c5b0 : decide (0 ≤ t162) = true := decide_eq_true c5
 clear c5
 by_cases c6 : t162 < (l0.length : Int)
 rotate_left
 ·rw [if_neg c6] at H
  exact absurd H (by simp)
 rw [if_pos c6] at H
 have c6b0 : decide (t162 < (l0.length : Int)) = true := decide_eq_true c6
 clear c6
 obtain rfl := Option.some.inj H
 go_enter Try.func21, Try.ntmps21
 go_wp2_with (first | ((with_reducible refine gate_callee (f := 19) rfl ?_); refine gL (some 8) Try.func19 #[.slice A0 l0.length c0, .string a1] rfl rfl ?_; (with_reducible refine (owned_Of.calls k _ _ l0 a1 t162 _ ?side1 ?side2 A3.out).mono ?_); (case side1 => exact kC (HR0.out)); (case side2 => exact HC0.out); rintro e w7 ⟨rfl, hb⟩; refine ⟨_, rfl, ?_⟩; have n0_ := am_ (below_step (kZ HB) hb); clear HB; have HB := n0_; clear n0_; (try clear hb); (try clear hb2); (try clear hk); (try clear hi); have p163 : 0 ≤ (t162 : Int) := od_; have q163 : t162 < (l0.length : Int) := od_; obtain ⟨ad163, e163, hx163_0, hx163_1, hx163_2⟩ := at_T45 HR0.out t162 p163 q163; cases e163; replace hx163_0 := pw_cell_below HB.out hx163_0; replace hx163_1 := pw_cell_below HB.out hx163_1; replace hx163_2 := pw_cell_below HB.out hx163_2; replace p163 := eq_true p163; replace q163 := eq_true q163))
 go_ret
 exact ⟨e2_, kZ HB⟩
/-! ### cantonlaw11_head: function 9 -/
def cantonlaw11_head.f (k : Nat)  : Option (Bool) := (owned_Install.f k ([] : List (S45)) (⟨#[47]⟩ : ByteArray) 1).bind fun bt164 => ((owned_Freeze.f k bt164.1 (⟨#[47, 97]⟩ : ByteArray)).bind fun bt168 => ((owned_Drop.f k bt168.1 (⟨#[47, 97]⟩ : ByteArray) 1).bind fun bt172 => ((owned_Install.f k bt172.1 (⟨#[47, 97]⟩ : ByteArray) 2).bind fun bt176 => ((owned_Install.f k bt176.1 (⟨#[47, 97]⟩ : ByteArray) 2).bind fun bt180 => ((owned_Cut.f (([(⟨(⟨#[47]⟩ : ByteArray), (⟨#[]⟩ : ByteArray), 0, 0, 0⟩ : S40), (⟨(⟨#[47, 97]⟩ : ByteArray), (⟨#[]⟩ : ByteArray), 0, 0, 0⟩ : S40), (⟨(⟨#[47, 97, 47, 98]⟩ : ByteArray), (⟨#[]⟩ : ByteArray), 0, 0, 0⟩ : S40)] : List (S40))) ([] : List (S59)) bt168.1 (⟨#[47, 97]⟩ : ByteArray)).bind fun bt187 => (if bt164.2 = true then (if bt168.2 = true then (if bt172.2 = true then (if bt176.2 = true then (if bt180.2 = true then (some false) else ((owned_State.f k bt168.1 (⟨#[47, 97, 47, 98]⟩ : ByteArray)).bind fun t201 => (if t201 = 2 then ((owned_State.f k bt168.1 (⟨#[47, 98]⟩ : ByteArray)).bind fun t202 => (if t202 = 1 then ((owned_State.f k bt176.1 (⟨#[47, 97]⟩ : ByteArray)).bind fun t203 => (if t203 = 1 then ((owned_Of.f k bt168.1 (⟨#[47, 97]⟩ : ByteArray)).bind fun t204 => (if t204 = 1 then ((owned_State.f k ([] : List (S45)) (⟨#[47]⟩ : ByteArray)).bind fun t205 => (if t205 = 3 then (if (bt187.1.length : Int) = 1 then (if (bt187.2.2.1.length : Int) = 2 then ((owned_Right.f k bt168.1).bind fun t206 => (some t206)) else (some false)) else (some false)) else (some false))) else (some false))) else (some false))) else (some false))) else (some false)))) else (some false)) else (some false)) else (some false)) else (some false)))))))
theorem cantonlaw11_head.mono : ∀ k, LeO (cantonlaw11_head.f k ) (cantonlaw11_head.f (k + 1) ) := by
 intro  k
 unfold cantonlaw11_head.f
 repeat' first
   | (with_reducible exact owned_Drop.mono _ _ _ _)
   | (with_reducible exact owned_Freeze.mono _ _ _)
   | (with_reducible exact owned_Install.mono _ _ _ _)
   | (with_reducible exact owned_Of.mono _ _ _)
   | (with_reducible exact owned_Right.mono _ _)
   | (with_reducible exact owned_State.mono _ _ _)
   | (with_reducible exact LeO.refl _)
   | (with_reducible exact LeO.none _)
   | (with_reducible refine LeO.ite ?_ ?_)
   | (with_reducible refine LeO.bind ?_ (fun _ => ?_))
   | exact owned_Drop.mono _ _ _ _
   | exact owned_Freeze.mono _ _ _
   | exact owned_Install.mono _ _ _ _
   | exact owned_Of.mono _ _ _
   | exact owned_Right.mono _ _
   | exact owned_State.mono _ _ _
   | exact LeO.none _
   | refine LeO.ite ?_ ?_
   | refine LeO.bind ?_ (fun _ => ?_)
set_option maxHeartbeats 8000000 in
set_option maxRecDepth 100000 in
theorem cantonlaw11_head.calls_true (k : Nat)  (r : Bool) (w : World) (hr : r = true) (h : cantonlaw11_head.f k  = some r) :
  Calls Try.prog 9 #[] w fun e w' => e = .returned (.bool r) ∧ Below w.heap.size w w' := by
 have hu40 := Try.underlying40
 have hu34 := Try.underlying34
 have HB := am_ (Below.refl w.heap.size w)
 have H : ((owned_Install.f k ([] : List (S45)) (⟨#[47]⟩ : ByteArray) 1).bind fun bt164 => ((owned_Freeze.f k bt164.1 (⟨#[47, 97]⟩ : ByteArray)).bind fun bt168 => ((owned_Drop.f k bt168.1 (⟨#[47, 97]⟩ : ByteArray) 1).bind fun bt172 => ((owned_Install.f k bt172.1 (⟨#[47, 97]⟩ : ByteArray) 2).bind fun bt176 => ((owned_Install.f k bt176.1 (⟨#[47, 97]⟩ : ByteArray) 2).bind fun bt180 => ((owned_Cut.f (([(⟨(⟨#[47]⟩ : ByteArray), (⟨#[]⟩ : ByteArray), 0, 0, 0⟩ : S40), (⟨(⟨#[47, 97]⟩ : ByteArray), (⟨#[]⟩ : ByteArray), 0, 0, 0⟩ : S40), (⟨(⟨#[47, 97, 47, 98]⟩ : ByteArray), (⟨#[]⟩ : ByteArray), 0, 0, 0⟩ : S40)] : List (S40))) ([] : List (S59)) bt168.1 (⟨#[47, 97]⟩ : ByteArray)).bind fun bt187 => (if bt164.2 = true then (if bt168.2 = true then (if bt172.2 = true then (if bt176.2 = true then (if bt180.2 = true then (some false) else ((owned_State.f k bt168.1 (⟨#[47, 97, 47, 98]⟩ : ByteArray)).bind fun t201 => (if t201 = 2 then ((owned_State.f k bt168.1 (⟨#[47, 98]⟩ : ByteArray)).bind fun t202 => (if t202 = 1 then ((owned_State.f k bt176.1 (⟨#[47, 97]⟩ : ByteArray)).bind fun t203 => (if t203 = 1 then ((owned_Of.f k bt168.1 (⟨#[47, 97]⟩ : ByteArray)).bind fun t204 => (if t204 = 1 then ((owned_State.f k ([] : List (S45)) (⟨#[47]⟩ : ByteArray)).bind fun t205 => (if t205 = 3 then (if (bt187.1.length : Int) = 1 then (if (bt187.2.2.1.length : Int) = 2 then ((owned_Right.f k bt168.1).bind fun t206 => (some t206)) else (some false)) else (some false)) else (some false))) else (some false))) else (some false))) else (some false))) else (some false)))) else (some false)) else (some false)) else (some false)) else (some false)))))))) = some r := h
 clear h
 replace H := Option.bind_eq_some_iff.mp H
 obtain ⟨⟨t164, t165⟩, A10, H⟩ := H
 replace H : ((owned_Freeze.f k t164 (⟨#[47, 97]⟩ : ByteArray)).bind fun bt168 => ((owned_Drop.f k bt168.1 (⟨#[47, 97]⟩ : ByteArray) 1).bind fun bt172 => ((owned_Install.f k bt172.1 (⟨#[47, 97]⟩ : ByteArray) 2).bind fun bt176 => ((owned_Install.f k bt176.1 (⟨#[47, 97]⟩ : ByteArray) 2).bind fun bt180 => ((owned_Cut.f (([(⟨(⟨#[47]⟩ : ByteArray), (⟨#[]⟩ : ByteArray), 0, 0, 0⟩ : S40), (⟨(⟨#[47, 97]⟩ : ByteArray), (⟨#[]⟩ : ByteArray), 0, 0, 0⟩ : S40), (⟨(⟨#[47, 97, 47, 98]⟩ : ByteArray), (⟨#[]⟩ : ByteArray), 0, 0, 0⟩ : S40)] : List (S40))) ([] : List (S59)) bt168.1 (⟨#[47, 97]⟩ : ByteArray)).bind fun bt187 => (if t165 = true then (if bt168.2 = true then (if bt172.2 = true then (if bt176.2 = true then (if bt180.2 = true then (some false) else ((owned_State.f k bt168.1 (⟨#[47, 97, 47, 98]⟩ : ByteArray)).bind fun t201 => (if t201 = 2 then ((owned_State.f k bt168.1 (⟨#[47, 98]⟩ : ByteArray)).bind fun t202 => (if t202 = 1 then ((owned_State.f k bt176.1 (⟨#[47, 97]⟩ : ByteArray)).bind fun t203 => (if t203 = 1 then ((owned_Of.f k bt168.1 (⟨#[47, 97]⟩ : ByteArray)).bind fun t204 => (if t204 = 1 then ((owned_State.f k ([] : List (S45)) (⟨#[47]⟩ : ByteArray)).bind fun t205 => (if t205 = 3 then (if (bt187.1.length : Int) = 1 then (if (bt187.2.2.1.length : Int) = 2 then ((owned_Right.f k bt168.1).bind fun t206 => (some t206)) else (some false)) else (some false)) else (some false))) else (some false))) else (some false))) else (some false))) else (some false)))) else (some false)) else (some false)) else (some false)) else (some false))))))) = some r := H
 have A1 := am_ A10
 clear A10
 replace H := Option.bind_eq_some_iff.mp H
 obtain ⟨⟨t168, t169⟩, A20, H⟩ := H
 replace H : ((owned_Drop.f k t168 (⟨#[47, 97]⟩ : ByteArray) 1).bind fun bt172 => ((owned_Install.f k bt172.1 (⟨#[47, 97]⟩ : ByteArray) 2).bind fun bt176 => ((owned_Install.f k bt176.1 (⟨#[47, 97]⟩ : ByteArray) 2).bind fun bt180 => ((owned_Cut.f (([(⟨(⟨#[47]⟩ : ByteArray), (⟨#[]⟩ : ByteArray), 0, 0, 0⟩ : S40), (⟨(⟨#[47, 97]⟩ : ByteArray), (⟨#[]⟩ : ByteArray), 0, 0, 0⟩ : S40), (⟨(⟨#[47, 97, 47, 98]⟩ : ByteArray), (⟨#[]⟩ : ByteArray), 0, 0, 0⟩ : S40)] : List (S40))) ([] : List (S59)) t168 (⟨#[47, 97]⟩ : ByteArray)).bind fun bt187 => (if t165 = true then (if t169 = true then (if bt172.2 = true then (if bt176.2 = true then (if bt180.2 = true then (some false) else ((owned_State.f k t168 (⟨#[47, 97, 47, 98]⟩ : ByteArray)).bind fun t201 => (if t201 = 2 then ((owned_State.f k t168 (⟨#[47, 98]⟩ : ByteArray)).bind fun t202 => (if t202 = 1 then ((owned_State.f k bt176.1 (⟨#[47, 97]⟩ : ByteArray)).bind fun t203 => (if t203 = 1 then ((owned_Of.f k t168 (⟨#[47, 97]⟩ : ByteArray)).bind fun t204 => (if t204 = 1 then ((owned_State.f k ([] : List (S45)) (⟨#[47]⟩ : ByteArray)).bind fun t205 => (if t205 = 3 then (if (bt187.1.length : Int) = 1 then (if (bt187.2.2.1.length : Int) = 2 then ((owned_Right.f k t168).bind fun t206 => (some t206)) else (some false)) else (some false)) else (some false))) else (some false))) else (some false))) else (some false))) else (some false)))) else (some false)) else (some false)) else (some false)) else (some false)))))) = some r := H
 have A2 := am_ A20
 clear A20
 replace H := Option.bind_eq_some_iff.mp H
 obtain ⟨⟨t172, t173⟩, A30, H⟩ := H
 replace H : ((owned_Install.f k t172 (⟨#[47, 97]⟩ : ByteArray) 2).bind fun bt176 => ((owned_Install.f k bt176.1 (⟨#[47, 97]⟩ : ByteArray) 2).bind fun bt180 => ((owned_Cut.f (([(⟨(⟨#[47]⟩ : ByteArray), (⟨#[]⟩ : ByteArray), 0, 0, 0⟩ : S40), (⟨(⟨#[47, 97]⟩ : ByteArray), (⟨#[]⟩ : ByteArray), 0, 0, 0⟩ : S40), (⟨(⟨#[47, 97, 47, 98]⟩ : ByteArray), (⟨#[]⟩ : ByteArray), 0, 0, 0⟩ : S40)] : List (S40))) ([] : List (S59)) t168 (⟨#[47, 97]⟩ : ByteArray)).bind fun bt187 => (if t165 = true then (if t169 = true then (if t173 = true then (if bt176.2 = true then (if bt180.2 = true then (some false) else ((owned_State.f k t168 (⟨#[47, 97, 47, 98]⟩ : ByteArray)).bind fun t201 => (if t201 = 2 then ((owned_State.f k t168 (⟨#[47, 98]⟩ : ByteArray)).bind fun t202 => (if t202 = 1 then ((owned_State.f k bt176.1 (⟨#[47, 97]⟩ : ByteArray)).bind fun t203 => (if t203 = 1 then ((owned_Of.f k t168 (⟨#[47, 97]⟩ : ByteArray)).bind fun t204 => (if t204 = 1 then ((owned_State.f k ([] : List (S45)) (⟨#[47]⟩ : ByteArray)).bind fun t205 => (if t205 = 3 then (if (bt187.1.length : Int) = 1 then (if (bt187.2.2.1.length : Int) = 2 then ((owned_Right.f k t168).bind fun t206 => (some t206)) else (some false)) else (some false)) else (some false))) else (some false))) else (some false))) else (some false))) else (some false)))) else (some false)) else (some false)) else (some false)) else (some false))))) = some r := H
 have A3 := am_ A30
 clear A30
 replace H := Option.bind_eq_some_iff.mp H
 obtain ⟨⟨t176, t177⟩, A40, H⟩ := H
 replace H : ((owned_Install.f k t176 (⟨#[47, 97]⟩ : ByteArray) 2).bind fun bt180 => ((owned_Cut.f (([(⟨(⟨#[47]⟩ : ByteArray), (⟨#[]⟩ : ByteArray), 0, 0, 0⟩ : S40), (⟨(⟨#[47, 97]⟩ : ByteArray), (⟨#[]⟩ : ByteArray), 0, 0, 0⟩ : S40), (⟨(⟨#[47, 97, 47, 98]⟩ : ByteArray), (⟨#[]⟩ : ByteArray), 0, 0, 0⟩ : S40)] : List (S40))) ([] : List (S59)) t168 (⟨#[47, 97]⟩ : ByteArray)).bind fun bt187 => (if t165 = true then (if t169 = true then (if t173 = true then (if t177 = true then (if bt180.2 = true then (some false) else ((owned_State.f k t168 (⟨#[47, 97, 47, 98]⟩ : ByteArray)).bind fun t201 => (if t201 = 2 then ((owned_State.f k t168 (⟨#[47, 98]⟩ : ByteArray)).bind fun t202 => (if t202 = 1 then ((owned_State.f k t176 (⟨#[47, 97]⟩ : ByteArray)).bind fun t203 => (if t203 = 1 then ((owned_Of.f k t168 (⟨#[47, 97]⟩ : ByteArray)).bind fun t204 => (if t204 = 1 then ((owned_State.f k ([] : List (S45)) (⟨#[47]⟩ : ByteArray)).bind fun t205 => (if t205 = 3 then (if (bt187.1.length : Int) = 1 then (if (bt187.2.2.1.length : Int) = 2 then ((owned_Right.f k t168).bind fun t206 => (some t206)) else (some false)) else (some false)) else (some false))) else (some false))) else (some false))) else (some false))) else (some false)))) else (some false)) else (some false)) else (some false)) else (some false)))) = some r := H
 have A4 := am_ A40
 clear A40
 replace H := Option.bind_eq_some_iff.mp H
 obtain ⟨⟨t180, t181⟩, A50, H⟩ := H
 replace H : ((owned_Cut.f (([(⟨(⟨#[47]⟩ : ByteArray), (⟨#[]⟩ : ByteArray), 0, 0, 0⟩ : S40), (⟨(⟨#[47, 97]⟩ : ByteArray), (⟨#[]⟩ : ByteArray), 0, 0, 0⟩ : S40), (⟨(⟨#[47, 97, 47, 98]⟩ : ByteArray), (⟨#[]⟩ : ByteArray), 0, 0, 0⟩ : S40)] : List (S40))) ([] : List (S59)) t168 (⟨#[47, 97]⟩ : ByteArray)).bind fun bt187 => (if t165 = true then (if t169 = true then (if t173 = true then (if t177 = true then (if t181 = true then (some false) else ((owned_State.f k t168 (⟨#[47, 97, 47, 98]⟩ : ByteArray)).bind fun t201 => (if t201 = 2 then ((owned_State.f k t168 (⟨#[47, 98]⟩ : ByteArray)).bind fun t202 => (if t202 = 1 then ((owned_State.f k t176 (⟨#[47, 97]⟩ : ByteArray)).bind fun t203 => (if t203 = 1 then ((owned_Of.f k t168 (⟨#[47, 97]⟩ : ByteArray)).bind fun t204 => (if t204 = 1 then ((owned_State.f k ([] : List (S45)) (⟨#[47]⟩ : ByteArray)).bind fun t205 => (if t205 = 3 then (if (bt187.1.length : Int) = 1 then (if (bt187.2.2.1.length : Int) = 2 then ((owned_Right.f k t168).bind fun t206 => (some t206)) else (some false)) else (some false)) else (some false))) else (some false))) else (some false))) else (some false))) else (some false)))) else (some false)) else (some false)) else (some false)) else (some false))) = some r := H
 have A5 := am_ A50
 clear A50
 obtain ⟨y184, hy184⟩ : ∃ y_ : List (S40), y_ = (([(⟨(⟨#[47]⟩ : ByteArray), (⟨#[]⟩ : ByteArray), 0, 0, 0⟩ : S40), (⟨(⟨#[47, 97]⟩ : ByteArray), (⟨#[]⟩ : ByteArray), 0, 0, 0⟩ : S40), (⟨(⟨#[47, 97, 47, 98]⟩ : ByteArray), (⟨#[]⟩ : ByteArray), 0, 0, 0⟩ : S40)] : List (S40))) := ⟨_, rfl⟩
 replace H : ((owned_Cut.f y184 ([] : List (S59)) t168 (⟨#[47, 97]⟩ : ByteArray)).bind fun bt187 => (if t165 = true then (if t169 = true then (if t173 = true then (if t177 = true then (if t181 = true then (some false) else ((owned_State.f k t168 (⟨#[47, 97, 47, 98]⟩ : ByteArray)).bind fun t201 => (if t201 = 2 then ((owned_State.f k t168 (⟨#[47, 98]⟩ : ByteArray)).bind fun t202 => (if t202 = 1 then ((owned_State.f k t176 (⟨#[47, 97]⟩ : ByteArray)).bind fun t203 => (if t203 = 1 then ((owned_Of.f k t168 (⟨#[47, 97]⟩ : ByteArray)).bind fun t204 => (if t204 = 1 then ((owned_State.f k ([] : List (S45)) (⟨#[47]⟩ : ByteArray)).bind fun t205 => (if t205 = 3 then (if (bt187.1.length : Int) = 1 then (if (bt187.2.2.1.length : Int) = 2 then ((owned_Right.f k t168).bind fun t206 => (some t206)) else (some false)) else (some false)) else (some false))) else (some false))) else (some false))) else (some false))) else (some false)))) else (some false)) else (some false)) else (some false)) else (some false))) = some r := by first | (rw [hy184]; with_reducible exact H) | (have H2_ := (Option.bind_some _ _).symm.trans H; rw [hy184]; with_reducible exact H2_) | (have H2_ := (Option.bind_some _ _).symm.trans H; with_reducible exact H2_) | with_reducible exact H | (rw [hy184]; exact H) | exact H
 have Ny184 := am_ hy184
 clear hy184
 replace H := Option.bind_eq_some_iff.mp H
 obtain ⟨⟨t187, t190, t193, t196⟩, A60, H⟩ := H
 replace H : (if t165 = true then (if t169 = true then (if t173 = true then (if t177 = true then (if t181 = true then (some false) else ((owned_State.f k t168 (⟨#[47, 97, 47, 98]⟩ : ByteArray)).bind fun t201 => (if t201 = 2 then ((owned_State.f k t168 (⟨#[47, 98]⟩ : ByteArray)).bind fun t202 => (if t202 = 1 then ((owned_State.f k t176 (⟨#[47, 97]⟩ : ByteArray)).bind fun t203 => (if t203 = 1 then ((owned_Of.f k t168 (⟨#[47, 97]⟩ : ByteArray)).bind fun t204 => (if t204 = 1 then ((owned_State.f k ([] : List (S45)) (⟨#[47]⟩ : ByteArray)).bind fun t205 => (if t205 = 3 then (if (t187.length : Int) = 1 then (if (t193.length : Int) = 2 then ((owned_Right.f k t168).bind fun t206 => (some t206)) else (some false)) else (some false)) else (some false))) else (some false))) else (some false))) else (some false))) else (some false)))) else (some false)) else (some false)) else (some false)) else (some false)) = some r := H
 have A6 := am_ A60
 clear A60
 by_cases c7 : t165 = true
 rotate_left
 ·replace c7 := Bool.eq_false_iff.mpr c7
  subst c7
  have H1 : (some false) = some r := by rw [if_neg (show ¬ (false = true) by decide)] at H; exact H
  clear H
  have H := H1
  clear H1
  exact absurd ((Option.some.inj H).trans hr) (by decide)
 subst c7
 have H1 : (if t169 = true then (if t173 = true then (if t177 = true then (if t181 = true then (some false) else ((owned_State.f k t168 (⟨#[47, 97, 47, 98]⟩ : ByteArray)).bind fun t201 => (if t201 = 2 then ((owned_State.f k t168 (⟨#[47, 98]⟩ : ByteArray)).bind fun t202 => (if t202 = 1 then ((owned_State.f k t176 (⟨#[47, 97]⟩ : ByteArray)).bind fun t203 => (if t203 = 1 then ((owned_Of.f k t168 (⟨#[47, 97]⟩ : ByteArray)).bind fun t204 => (if t204 = 1 then ((owned_State.f k ([] : List (S45)) (⟨#[47]⟩ : ByteArray)).bind fun t205 => (if t205 = 3 then (if (t187.length : Int) = 1 then (if (t193.length : Int) = 2 then ((owned_Right.f k t168).bind fun t206 => (some t206)) else (some false)) else (some false)) else (some false))) else (some false))) else (some false))) else (some false))) else (some false)))) else (some false)) else (some false)) else (some false)) = some r := by rw [if_pos rfl] at H; exact H
 clear H
 have H := H1
 clear H1
 by_cases c8 : t169 = true
 rotate_left
 ·replace c8 := Bool.eq_false_iff.mpr c8
  subst c8
  have H1 : (some false) = some r := by rw [if_neg (show ¬ (false = true) by decide)] at H; exact H
  clear H
  have H := H1
  clear H1
  exact absurd ((Option.some.inj H).trans hr) (by decide)
 subst c8
 have H1 : (if t173 = true then (if t177 = true then (if t181 = true then (some false) else ((owned_State.f k t168 (⟨#[47, 97, 47, 98]⟩ : ByteArray)).bind fun t201 => (if t201 = 2 then ((owned_State.f k t168 (⟨#[47, 98]⟩ : ByteArray)).bind fun t202 => (if t202 = 1 then ((owned_State.f k t176 (⟨#[47, 97]⟩ : ByteArray)).bind fun t203 => (if t203 = 1 then ((owned_Of.f k t168 (⟨#[47, 97]⟩ : ByteArray)).bind fun t204 => (if t204 = 1 then ((owned_State.f k ([] : List (S45)) (⟨#[47]⟩ : ByteArray)).bind fun t205 => (if t205 = 3 then (if (t187.length : Int) = 1 then (if (t193.length : Int) = 2 then ((owned_Right.f k t168).bind fun t206 => (some t206)) else (some false)) else (some false)) else (some false))) else (some false))) else (some false))) else (some false))) else (some false)))) else (some false)) else (some false)) = some r := by rw [if_pos rfl] at H; exact H
 clear H
 have H := H1
 clear H1
 by_cases c9 : t173 = true
 rotate_left
 ·replace c9 := Bool.eq_false_iff.mpr c9
  subst c9
  have H1 : (some false) = some r := by rw [if_neg (show ¬ (false = true) by decide)] at H; exact H
  clear H
  have H := H1
  clear H1
  exact absurd ((Option.some.inj H).trans hr) (by decide)
 subst c9
 have H1 : (if t177 = true then (if t181 = true then (some false) else ((owned_State.f k t168 (⟨#[47, 97, 47, 98]⟩ : ByteArray)).bind fun t201 => (if t201 = 2 then ((owned_State.f k t168 (⟨#[47, 98]⟩ : ByteArray)).bind fun t202 => (if t202 = 1 then ((owned_State.f k t176 (⟨#[47, 97]⟩ : ByteArray)).bind fun t203 => (if t203 = 1 then ((owned_Of.f k t168 (⟨#[47, 97]⟩ : ByteArray)).bind fun t204 => (if t204 = 1 then ((owned_State.f k ([] : List (S45)) (⟨#[47]⟩ : ByteArray)).bind fun t205 => (if t205 = 3 then (if (t187.length : Int) = 1 then (if (t193.length : Int) = 2 then ((owned_Right.f k t168).bind fun t206 => (some t206)) else (some false)) else (some false)) else (some false))) else (some false))) else (some false))) else (some false))) else (some false)))) else (some false)) = some r := by rw [if_pos rfl] at H; exact H
 clear H
 have H := H1
 clear H1
 by_cases c10 : t177 = true
 rotate_left
 ·replace c10 := Bool.eq_false_iff.mpr c10
  subst c10
  have H1 : (some false) = some r := by rw [if_neg (show ¬ (false = true) by decide)] at H; exact H
  clear H
  have H := H1
  clear H1
  exact absurd ((Option.some.inj H).trans hr) (by decide)
 subst c10
 have H1 : (if t181 = true then (some false) else ((owned_State.f k t168 (⟨#[47, 97, 47, 98]⟩ : ByteArray)).bind fun t201 => (if t201 = 2 then ((owned_State.f k t168 (⟨#[47, 98]⟩ : ByteArray)).bind fun t202 => (if t202 = 1 then ((owned_State.f k t176 (⟨#[47, 97]⟩ : ByteArray)).bind fun t203 => (if t203 = 1 then ((owned_Of.f k t168 (⟨#[47, 97]⟩ : ByteArray)).bind fun t204 => (if t204 = 1 then ((owned_State.f k ([] : List (S45)) (⟨#[47]⟩ : ByteArray)).bind fun t205 => (if t205 = 3 then (if (t187.length : Int) = 1 then (if (t193.length : Int) = 2 then ((owned_Right.f k t168).bind fun t206 => (some t206)) else (some false)) else (some false)) else (some false))) else (some false))) else (some false))) else (some false))) else (some false)))) = some r := by rw [if_pos rfl] at H; exact H
 clear H
 have H := H1
 clear H1
 by_cases c11 : t181 = true
 ·subst c11
  have H1 : (some false) = some r := by rw [if_pos rfl] at H; exact H
  clear H
  have H := H1
  clear H1
  exact absurd ((Option.some.inj H).trans hr) (by decide)
 ·replace c11 := Bool.eq_false_iff.mpr c11
  subst c11
  have H1 : ((owned_State.f k t168 (⟨#[47, 97, 47, 98]⟩ : ByteArray)).bind fun t201 => (if t201 = 2 then ((owned_State.f k t168 (⟨#[47, 98]⟩ : ByteArray)).bind fun t202 => (if t202 = 1 then ((owned_State.f k t176 (⟨#[47, 97]⟩ : ByteArray)).bind fun t203 => (if t203 = 1 then ((owned_Of.f k t168 (⟨#[47, 97]⟩ : ByteArray)).bind fun t204 => (if t204 = 1 then ((owned_State.f k ([] : List (S45)) (⟨#[47]⟩ : ByteArray)).bind fun t205 => (if t205 = 3 then (if (t187.length : Int) = 1 then (if (t193.length : Int) = 2 then ((owned_Right.f k t168).bind fun t206 => (some t206)) else (some false)) else (some false)) else (some false))) else (some false))) else (some false))) else (some false))) else (some false))) = some r := by rw [if_neg (show ¬ (false = true) by decide)] at H; exact H
  clear H
  have H := H1
  clear H1
  replace H := Option.bind_eq_some_iff.mp H
  obtain ⟨t201, A340, H⟩ := H
  replace H : (if t201 = 2 then ((owned_State.f k t168 (⟨#[47, 98]⟩ : ByteArray)).bind fun t202 => (if t202 = 1 then ((owned_State.f k t176 (⟨#[47, 97]⟩ : ByteArray)).bind fun t203 => (if t203 = 1 then ((owned_Of.f k t168 (⟨#[47, 97]⟩ : ByteArray)).bind fun t204 => (if t204 = 1 then ((owned_State.f k ([] : List (S45)) (⟨#[47]⟩ : ByteArray)).bind fun t205 => (if t205 = 3 then (if (t187.length : Int) = 1 then (if (t193.length : Int) = 2 then ((owned_Right.f k t168).bind fun t206 => (some t206)) else (some false)) else (some false)) else (some false))) else (some false))) else (some false))) else (some false))) else (some false)) = some r := H
  have A34 := am_ A340
  clear A340
  by_cases c35 : t201 = 2
  rotate_left
  ·rw [if_neg c35] at H
   have c35b0 : (t201 == 2) = false := beq_eq_false_iff_ne.mpr c35
   have c35b1 : (t201 != 2) = true := bne_iff_ne.mpr c35
   exact absurd ((Option.some.inj H).trans hr) (by decide)
  rw [if_pos c35] at H
  have c35b0 : (t201 == 2) = true := beq_iff_eq.mpr c35
  have c35b1 : (t201 != 2) = false := bne_eq_false_iff_eq.mpr c35
  clear c35
  replace H := Option.bind_eq_some_iff.mp H
  obtain ⟨t202, A360, H⟩ := H
  replace H : (if t202 = 1 then ((owned_State.f k t176 (⟨#[47, 97]⟩ : ByteArray)).bind fun t203 => (if t203 = 1 then ((owned_Of.f k t168 (⟨#[47, 97]⟩ : ByteArray)).bind fun t204 => (if t204 = 1 then ((owned_State.f k ([] : List (S45)) (⟨#[47]⟩ : ByteArray)).bind fun t205 => (if t205 = 3 then (if (t187.length : Int) = 1 then (if (t193.length : Int) = 2 then ((owned_Right.f k t168).bind fun t206 => (some t206)) else (some false)) else (some false)) else (some false))) else (some false))) else (some false))) else (some false)) = some r := H
  have A36 := am_ A360
  clear A360
  by_cases c37 : t202 = 1
  rotate_left
  ·rw [if_neg c37] at H
   have c37b0 : (t202 == 1) = false := beq_eq_false_iff_ne.mpr c37
   have c37b1 : (t202 != 1) = true := bne_iff_ne.mpr c37
   exact absurd ((Option.some.inj H).trans hr) (by decide)
  rw [if_pos c37] at H
  have c37b0 : (t202 == 1) = true := beq_iff_eq.mpr c37
  have c37b1 : (t202 != 1) = false := bne_eq_false_iff_eq.mpr c37
  clear c37
  replace H := Option.bind_eq_some_iff.mp H
  obtain ⟨t203, A380, H⟩ := H
  replace H : (if t203 = 1 then ((owned_Of.f k t168 (⟨#[47, 97]⟩ : ByteArray)).bind fun t204 => (if t204 = 1 then ((owned_State.f k ([] : List (S45)) (⟨#[47]⟩ : ByteArray)).bind fun t205 => (if t205 = 3 then (if (t187.length : Int) = 1 then (if (t193.length : Int) = 2 then ((owned_Right.f k t168).bind fun t206 => (some t206)) else (some false)) else (some false)) else (some false))) else (some false))) else (some false)) = some r := H
  have A38 := am_ A380
  clear A380
  by_cases c39 : t203 = 1
  rotate_left
  ·rw [if_neg c39] at H
   have c39b0 : (t203 == 1) = false := beq_eq_false_iff_ne.mpr c39
   have c39b1 : (t203 != 1) = true := bne_iff_ne.mpr c39
   exact absurd ((Option.some.inj H).trans hr) (by decide)
  rw [if_pos c39] at H
  have c39b0 : (t203 == 1) = true := beq_iff_eq.mpr c39
  have c39b1 : (t203 != 1) = false := bne_eq_false_iff_eq.mpr c39
  clear c39
  replace H := Option.bind_eq_some_iff.mp H
  obtain ⟨t204, A400, H⟩ := H
  replace H : (if t204 = 1 then ((owned_State.f k ([] : List (S45)) (⟨#[47]⟩ : ByteArray)).bind fun t205 => (if t205 = 3 then (if (t187.length : Int) = 1 then (if (t193.length : Int) = 2 then ((owned_Right.f k t168).bind fun t206 => (some t206)) else (some false)) else (some false)) else (some false))) else (some false)) = some r := H
  have A40 := am_ A400
  clear A400
  by_cases c41 : t204 = 1
  rotate_left
  ·rw [if_neg c41] at H
   have c41b0 : (t204 == 1) = false := beq_eq_false_iff_ne.mpr c41
   have c41b1 : (t204 != 1) = true := bne_iff_ne.mpr c41
   exact absurd ((Option.some.inj H).trans hr) (by decide)
  rw [if_pos c41] at H
  have c41b0 : (t204 == 1) = true := beq_iff_eq.mpr c41
  have c41b1 : (t204 != 1) = false := bne_eq_false_iff_eq.mpr c41
  clear c41
  replace H := Option.bind_eq_some_iff.mp H
  obtain ⟨t205, A420, H⟩ := H
  replace H : (if t205 = 3 then (if (t187.length : Int) = 1 then (if (t193.length : Int) = 2 then ((owned_Right.f k t168).bind fun t206 => (some t206)) else (some false)) else (some false)) else (some false)) = some r := H
  have A42 := am_ A420
  clear A420
  by_cases c43 : t205 = 3
  rotate_left
  ·rw [if_neg c43] at H
   have c43b0 : (t205 == 3) = false := beq_eq_false_iff_ne.mpr c43
   have c43b1 : (t205 != 3) = true := bne_iff_ne.mpr c43
   exact absurd ((Option.some.inj H).trans hr) (by decide)
  rw [if_pos c43] at H
  have c43b0 : (t205 == 3) = true := beq_iff_eq.mpr c43
  have c43b1 : (t205 != 3) = false := bne_eq_false_iff_eq.mpr c43
  clear c43
  by_cases c44 : (t187.length : Int) = 1
  rotate_left
  ·rw [if_neg c44] at H
   have c44b0 : ((t187.length : Int) == 1) = false := beq_eq_false_iff_ne.mpr c44
   have c44b1 : ((t187.length : Int) != 1) = true := bne_iff_ne.mpr c44
   exact absurd ((Option.some.inj H).trans hr) (by decide)
  rw [if_pos c44] at H
  have c44b0 : ((t187.length : Int) == 1) = true := beq_iff_eq.mpr c44
  have c44b1 : ((t187.length : Int) != 1) = false := bne_eq_false_iff_eq.mpr c44
  clear c44
  by_cases c45 : (t193.length : Int) = 2
  rotate_left
  ·rw [if_neg c45] at H
   have c45b0 : ((t193.length : Int) == 2) = false := beq_eq_false_iff_ne.mpr c45
   have c45b1 : ((t193.length : Int) != 2) = true := bne_iff_ne.mpr c45
   exact absurd ((Option.some.inj H).trans hr) (by decide)
  rw [if_pos c45] at H
  have c45b0 : ((t193.length : Int) == 2) = true := beq_iff_eq.mpr c45
  have c45b1 : ((t193.length : Int) != 2) = false := bne_eq_false_iff_eq.mpr c45
  clear c45
  replace H := Option.bind_eq_some_iff.mp H
  obtain ⟨t206, A460, H⟩ := H
  replace H : (some t206) = some r := H
  have A46 := am_ A460
  clear A460
  obtain rfl := Option.some.inj H
  go_enter Try.func9, Try.ntmps9
  go_wp2_with (first | ((with_reducible refine gate_callee (f := 13) rfl ?_); refine gL (some 14) Try.func13 #[.slice none 0 0, .string (⟨#[47]⟩ : ByteArray), .int .i64 1] rfl rfl ?_; (refine (owned_Install.calls k _ _ ([] : List (S45)) (⟨#[47]⟩ : ByteArray) 1 t164 true _ ?side1 ?side2 A1.out).mono ?_); (case side1 => exact Kd.C_nil _ _); (case side2 => exact Nat.le_refl _); rintro e w47 ⟨v166, rfl, ho0, hb⟩; refine ⟨_, rfl, ?_⟩; have n0_ := am_ (Kd.R_lower ho0 (below_size (kZ HB))); have n1_ := am_ (below_step (kZ HB) hb); clear HB; have HO167 := n0_; have HB := n1_; clear n0_ n1_; (try clear hb); (try clear hb2); (try clear hk); (try clear hi); (try clear ho0); obtain ⟨Ao48, co48, eo48⟩ := Kd.R_slice HO167.out; subst eo48) | ((with_reducible refine gate_callee (f := 11) rfl ?_); refine gL (some 19) Try.func11 #[.slice Ao48 t164.length co48, .string (⟨#[47, 97]⟩ : ByteArray)] rfl rfl ?_; (with_reducible refine (owned_Freeze.calls k _ _ t164 (⟨#[47, 97]⟩ : ByteArray) t168 true _ ?side1 ?side2 A2.out).mono ?_); (case side1 => exact kC ((Kd.R_reads' HO167.out).2.2)); (case side2 => exact (Kd.R_reads' HO167.out).2.1); rintro e w49 ⟨v170, rfl, ho0, hb⟩; refine ⟨_, rfl, ?_⟩; have n0_ := am_ (Kd.R_elder' (kR HO167) (Kd.R_base ho0) hb); have n1_ := am_ (Kd.R_lower (Kd.R_new' ho0 (Kd.R_lt (kR HO167))) (below_size (kZ HB))); have n2_ := am_ (below_step (kZ HB) hb); clear HO167; clear HB; have HO167 := n0_; have HO171 := n1_; have HB := n2_; clear n0_ n1_ n2_; (try clear hb); (try clear hb2); (try clear hk); (try clear hi); (try clear ho0); obtain ⟨Ao50, co50, eo50⟩ := Kd.R_slice HO171.out; subst eo50) | ((with_reducible refine gate_callee (f := 15) rfl ?_); refine gL (some 24) Try.func15 #[.slice Ao50 t168.length co50, .string (⟨#[47, 97]⟩ : ByteArray), .int .i64 1] rfl rfl ?_; (with_reducible refine (owned_Drop.calls k _ _ t168 (⟨#[47, 97]⟩ : ByteArray) 1 t172 true _ ?side1 ?side2 A3.out).mono ?_); (case side1 => exact kC ((Kd.R_reads' HO171.out).2.2)); (case side2 => exact (Kd.R_reads' HO171.out).2.1); rintro e w51 ⟨v174, rfl, ho0, hb⟩; refine ⟨_, rfl, ?_⟩; have n0_ := am_ (Kd.R_elder' (kR HO167) (Kd.R_base ho0) hb); have n1_ := am_ (Kd.R_elder' (kR HO171) (Kd.R_base ho0) hb); have n2_ := am_ (Kd.R_lower (Kd.R_new' (Kd.R_new' ho0 (Kd.R_lt (kR HO167))) (Kd.R_lt (kR HO171))) (below_size (kZ HB))); have n3_ := am_ (below_step (kZ HB) hb); clear HO167; clear HO171; clear HB; have HO167 := n0_; have HO171 := n1_; have HO175 := n2_; have HB := n3_; clear n0_ n1_ n2_ n3_; (try clear hb); (try clear hb2); (try clear hk); (try clear hi); (try clear ho0); obtain ⟨Ao52, co52, eo52⟩ := Kd.R_slice HO175.out; subst eo52) | ((with_reducible refine gate_callee (f := 13) rfl ?_); refine gL (some 29) Try.func13 #[.slice Ao52 t172.length co52, .string (⟨#[47, 97]⟩ : ByteArray), .int .i64 2] rfl rfl ?_; (with_reducible refine (owned_Install.calls k _ _ t172 (⟨#[47, 97]⟩ : ByteArray) 2 t176 true _ ?side1 ?side2 A4.out).mono ?_); (case side1 => exact kC ((Kd.R_reads' HO175.out).2.2)); (case side2 => exact (Kd.R_reads' HO175.out).2.1); rintro e w53 ⟨v178, rfl, ho0, hb⟩; refine ⟨_, rfl, ?_⟩; have n0_ := am_ (Kd.R_elder' (kR HO167) (Kd.R_base ho0) hb); have n1_ := am_ (Kd.R_elder' (kR HO171) (Kd.R_base ho0) hb); have n2_ := am_ (Kd.R_elder' (kR HO175) (Kd.R_base ho0) hb); have n3_ := am_ (Kd.R_lower (Kd.R_new' (Kd.R_new' (Kd.R_new' ho0 (Kd.R_lt (kR HO167))) (Kd.R_lt (kR HO171))) (Kd.R_lt (kR HO175))) (below_size (kZ HB))); have n4_ := am_ (below_step (kZ HB) hb); clear HO167; clear HO171; clear HO175; clear HB; have HO167 := n0_; have HO171 := n1_; have HO175 := n2_; have HO179 := n3_; have HB := n4_; clear n0_ n1_ n2_ n3_ n4_; (try clear hb); (try clear hb2); (try clear hk); (try clear hi); (try clear ho0); obtain ⟨Ao54, co54, eo54⟩ := Kd.R_slice HO179.out; subst eo54) | ((with_reducible refine gate_callee (f := 13) rfl ?_); refine gL (some 34) Try.func13 #[.slice Ao54 t176.length co54, .string (⟨#[47, 97]⟩ : ByteArray), .int .i64 2] rfl rfl ?_; (with_reducible refine (owned_Install.calls k _ _ t176 (⟨#[47, 97]⟩ : ByteArray) 2 t180 false _ ?side1 ?side2 A5.out).mono ?_); (case side1 => exact kC ((Kd.R_reads' HO179.out).2.2)); (case side2 => exact (Kd.R_reads' HO179.out).2.1); rintro e w55 ⟨v182, rfl, ho0, hb⟩; refine ⟨_, rfl, ?_⟩; have n0_ := am_ (Kd.R_elder' (kR HO167) (Kd.R_base ho0) hb); have n1_ := am_ (Kd.R_elder' (kR HO171) (Kd.R_base ho0) hb); have n2_ := am_ (Kd.R_elder' (kR HO175) (Kd.R_base ho0) hb); have n3_ := am_ (Kd.R_elder' (kR HO179) (Kd.R_base ho0) hb); have n4_ := am_ (Kd.R_lower (Kd.R_new' (Kd.R_new' (Kd.R_new' (Kd.R_new' ho0 (Kd.R_lt (kR HO167))) (Kd.R_lt (kR HO171))) (Kd.R_lt (kR HO175))) (Kd.R_lt (kR HO179))) (below_size (kZ HB))); have n5_ := am_ (below_step (kZ HB) hb); clear HO167; clear HO171; clear HO175; clear HO179; clear HB; have HO167 := n0_; have HO171 := n1_; have HO175 := n2_; have HO179 := n3_; have HO183 := n4_; have HB := n5_; clear n0_ n1_ n2_ n3_ n4_ n5_; (try clear hb); (try clear hb2); (try clear hk); (try clear hi); (try clear ho0)) | ((with_reducible refine gate_dst (N := 41) rfl ?_); (try (refine gate_guard (by rfl) ?_; dsimp only)); refine Kd.R_lit k40 _ 40 ?hg (N := 41) ?hd (xs := ([(⟨(⟨#[47]⟩ : ByteArray), (⟨#[]⟩ : ByteArray), 0, 0, 0⟩ : S40), (⟨(⟨#[47, 97]⟩ : ByteArray), (⟨#[]⟩ : ByteArray), 0, 0, 0⟩ : S40), (⟨(⟨#[47, 97, 47, 98]⟩ : ByteArray), (⟨#[]⟩ : ByteArray), 0, 0, 0⟩ : S40)] : List (S40))) (inner := [.string (⟨#[47]⟩ : ByteArray), .string (⟨#[]⟩ : ByteArray), .int .i64 0, .int .i64 0, .int .i64 0, .string (⟨#[47, 97]⟩ : ByteArray), .string (⟨#[]⟩ : ByteArray), .int .i64 0, .int .i64 0, .int .i64 0, .string (⟨#[47, 97, 47, 98]⟩ : ByteArray), .string (⟨#[]⟩ : ByteArray), .int .i64 0, .int .i64 0, .int .i64 0]) (ok := fun _ => True) (okp := fun _ => True) ?hr ?hp (fun _ hk => hk) trivial (Below.refl _ _) (Nat.le_refl _) (by simp) ?_; (case hd => rfl); (case hg => rfl); (case hr => first | (go_simp; done) | (go_simp; rfl)); (case hp => exact (Reps.c5 (show Kd.M k40 _ _ _ (⟨(⟨#[47]⟩ : ByteArray), (⟨#[]⟩ : ByteArray), 0, 0, 0⟩ : S40) [.string (⟨#[47]⟩ : ByteArray), .string (⟨#[]⟩ : ByteArray), .int .i64 0, .int .i64 0, .int .i64 0] from (k40_mkM _ _ _ (⟨(⟨#[47]⟩ : ByteArray), (⟨#[]⟩ : ByteArray), 0, 0, 0⟩ : S40) )) (Reps.c5 (show Kd.M k40 _ _ _ (⟨(⟨#[47, 97]⟩ : ByteArray), (⟨#[]⟩ : ByteArray), 0, 0, 0⟩ : S40) [.string (⟨#[47, 97]⟩ : ByteArray), .string (⟨#[]⟩ : ByteArray), .int .i64 0, .int .i64 0, .int .i64 0] from (k40_mkM _ _ _ (⟨(⟨#[47, 97]⟩ : ByteArray), (⟨#[]⟩ : ByteArray), 0, 0, 0⟩ : S40) )) (Reps.c5 (show Kd.M k40 _ _ _ (⟨(⟨#[47, 97, 47, 98]⟩ : ByteArray), (⟨#[]⟩ : ByteArray), 0, 0, 0⟩ : S40) [.string (⟨#[47, 97, 47, 98]⟩ : ByteArray), .string (⟨#[]⟩ : ByteArray), .int .i64 0, .int .i64 0, .int .i64 0] from (k40_mkM _ _ _ (⟨(⟨#[47, 97, 47, 98]⟩ : ByteArray), (⟨#[]⟩ : ByteArray), 0, 0, 0⟩ : S40) )) (Reps.none _ _))))); intro v185 w56 ho57 hb hg_ hnew_; clear hg_ hnew_; (first | rw [← Ny184.out] at ho57 | (simp only [Int.reduceToNat] at ho57; rw [← Ny184.out] at ho57)); have n0_ := am_ (Kd.R_below (kR HO167) hb); have n1_ := am_ (Kd.R_below (kR HO171) hb); have n2_ := am_ (Kd.R_below (kR HO175) hb); have n3_ := am_ (Kd.R_below (kR HO179) hb); have n4_ := am_ (Kd.R_below (kR HO183) hb); have n5_ := am_ (Kd.R_lower ho57 (below_size (kZ HB))); have n6_ := am_ (below_step (kZ HB) hb); clear HO167; clear HO171; clear HO175; clear HO179; clear HO183; clear HB; have HO167 := n0_; have HO171 := n1_; have HO175 := n2_; have HO179 := n3_; have HO183 := n4_; have HO186 := n5_; have HB := n6_; clear n0_ n1_ n2_ n3_ n4_ n5_ n6_; clear hb ho57; obtain ⟨Ao58, co58, eo58⟩ := Kd.R_slice HO186.out; subst eo58) | ((with_reducible refine gate_callee (f := 25) rfl ?_); refine gL (some 44) Try.func25 #[.agg #[.slice Ao58 y184.length co58, .slice none 0 0], .slice Ao50 t168.length co50, .string (⟨#[47, 97]⟩ : ByteArray)] rfl rfl ?_; (refine (owned_Cut.calls _ _ y184 _ _ ([] : List (S59)) _ _ t168 (⟨#[47, 97]⟩ : ByteArray) t187 t190 t193 t196 _ ?side1 ?side2 ?side3 ?side4 ?side5 ?side6 A6.out).mono ?_); (case side1 => exact kC ((Kd.R_reads' HO186.out).2.2)); (case side2 => exact (Kd.R_reads' HO186.out).2.1); (case side3 => exact Kd.C_nil _ _); (case side4 => exact Nat.le_refl _); (case side5 => exact kC ((Kd.R_reads' HO171.out).2.2)); (case side6 => exact (Kd.R_reads' HO171.out).2.1); rintro e w59 ⟨v188, v191, v194, v197, rfl, ho0, ho1, ho2, ho3, hb⟩; refine ⟨_, rfl, ?_⟩; have n0_ := am_ (Kd.R_below (kR HO167) hb); have n1_ := am_ (Kd.R_below (kR HO171) hb); have n2_ := am_ (Kd.R_below (kR HO175) hb); have n3_ := am_ (Kd.R_below (kR HO179) hb); have n4_ := am_ (Kd.R_below (kR HO183) hb); have n5_ := am_ (Kd.R_mono (Kd.R_told (Kd.R_told (Kd.R_old (kR HO186) hb) (Kd.R_base ho0)) (Kd.R_base ho2)) (fun _ h_ => h_.1)); have n6_ := am_ (Kd.R_lower (Kd.R_new' ho0 (Kd.R_lt (kR HO186))) (below_size (kZ HB))); have n7_ := am_ (Kd.R_lower ho1 (below_size (kZ HB))); have n8_ := am_ (Kd.R_lower (Kd.R_new' ho2 (Kd.R_lt (kR HO186))) (below_size (kZ HB))); have n9_ := am_ (Kd.R_lower ho3 (below_size (kZ HB))); have n10_ := am_ (below_step (kZ HB) hb); clear HO167; clear HO171; clear HO175; clear HO179; clear HO183; clear HO186; clear HB; have HO167 := n0_; have HO171 := n1_; have HO175 := n2_; have HO179 := n3_; have HO183 := n4_; have HO186 := n5_; have HO189 := n6_; have HO192 := n7_; have HO195 := n8_; have HO198 := n9_; have HB := n10_; clear n0_ n1_ n2_ n3_ n4_ n5_ n6_ n7_ n8_ n9_ n10_; (try clear hb); (try clear hb2); (try clear hk); (try clear hi); (try clear ho0); (try clear ho1); (try clear ho2); (try clear ho3)) | ((with_reducible refine gate_dst (N := 11) rfl ?_); (try (refine gate_guard (by rfl) ?_; dsimp only)); refine box_event ?hg (N := 11) ?hd (cs := #[.slice none 0 0, .slice none 0 0]) (t := 34) ?hr ?_; (case hd => rfl); (case hg => rfl); (case hr => first | (go_simp; done) | (go_simp; rfl)); intro gb199 hg w60 hbox hb; have n0_ := am_ (Kd.R_below (kR HO167) hb); have n1_ := am_ (Kd.R_below (kR HO171) hb); have n2_ := am_ (Kd.R_below (kR HO175) hb); have n3_ := am_ (Kd.R_below (kR HO179) hb); have n4_ := am_ (Kd.R_below (kR HO183) hb); have n5_ := am_ (Kd.R_below (kR HO186) hb); have n6_ := am_ (Kd.R_below (kR HO189) hb); have n7_ := am_ (Kd.R_below (kR HO192) hb); have n8_ := am_ (Kd.R_below (kR HO195) hb); have n9_ := am_ (Kd.R_below (kR HO198) hb); have n10_ := am_ (below_step (kZ HB) hb); have n11_ := am_ (hbox); have n12_ := am_ (gW hg (kZ HB)); have n13_ := am_ (gW hg (kZ HB)); clear HO167; clear HO171; clear HO175; clear HO179; clear HO183; clear HO186; clear HO189; clear HO192; clear HO195; clear HO198; clear HB; have HO167 := n0_; have HO171 := n1_; have HO175 := n2_; have HO179 := n3_; have HO183 := n4_; have HO186 := n5_; have HO189 := n6_; have HO192 := n7_; have HO195 := n8_; have HO198 := n9_; have HB := n10_; have BK199 := n11_; have GW199 := n12_; have GE199 := n13_; clear n0_ n1_ n2_ n3_ n4_ n5_ n6_ n7_ n8_ n9_ n10_ n11_ n12_ n13_; clear hb hbox hg) | ((with_reducible refine gate_dst (N := 12) rfl ?_); (try (refine gate_guard (by rfl) ?_; dsimp only)); refine box_event ?hg (N := 12) ?hd (cs := #[.slice none 0 0, .slice none 0 0]) (t := 34) ?hr ?_; (case hd => rfl); (case hg => rfl); (case hr => first | (go_simp; done) | (go_simp; rfl)); intro gb200 hg w61 hbox hb; have n0_ := am_ (Kd.R_below (kR HO167) hb); have n1_ := am_ (Kd.R_below (kR HO171) hb); have n2_ := am_ (Kd.R_below (kR HO175) hb); have n3_ := am_ (Kd.R_below (kR HO179) hb); have n4_ := am_ (Kd.R_below (kR HO183) hb); have n5_ := am_ (Kd.R_below (kR HO186) hb); have n6_ := am_ (Kd.R_below (kR HO189) hb); have n7_ := am_ (Kd.R_below (kR HO192) hb); have n8_ := am_ (Kd.R_below (kR HO195) hb); have n9_ := am_ (Kd.R_below (kR HO198) hb); have n10_ := am_ (blk_below (kB BK199) hb); have n11_ := am_ (below_step (kZ HB) hb); have n12_ := am_ (hbox); have n13_ := am_ (gW hg (kZ HB)); have n14_ := am_ (gW hg (kZ HB)); have n15_ := am_ (gN hg (kB BK199)); have n16_ := am_ (gM hg (kB BK199)); clear HO167; clear HO171; clear HO175; clear HO179; clear HO183; clear HO186; clear HO189; clear HO192; clear HO195; clear HO198; clear BK199; clear HB; have HO167 := n0_; have HO171 := n1_; have HO175 := n2_; have HO179 := n3_; have HO183 := n4_; have HO186 := n5_; have HO189 := n6_; have HO192 := n7_; have HO195 := n8_; have HO198 := n9_; have BK199 := n10_; have HB := n11_; have BK200 := n12_; have GW200 := n13_; have GE200 := n14_; have NB199_200 := n15_; have NB200_199 := n16_; clear n0_ n1_ n2_ n3_ n4_ n5_ n6_ n7_ n8_ n9_ n10_ n11_ n12_ n13_ n14_ n15_ n16_; clear hb hbox hg; obtain ⟨Ao62, co62, eo62⟩ := Kd.R_slice HO189.out; subst eo62; have hnb63 := NB199_200.out; have hnc63 := NB200_199.out; have hcz64_0 : w61.cell? ⟨gb199, 0, none⟩ = some (.slice none 0 0) := (blk_cell BK199.out 0).trans rfl; have hcz64_1 : w61.cell? ⟨gb199, 1, none⟩ = some (.slice none 0 0) := (blk_cell BK199.out 1).trans rfl; have hfz64_0 := blk_frozen BK199.out 0; have hfz64_1 := blk_frozen BK199.out 1; obtain ⟨Ao65, co65, eo65⟩ := Kd.R_slice HO192.out; subst eo65; obtain ⟨Ao66, co66, eo66⟩ := Kd.R_slice HO195.out; subst eo66; have hcz67_0 : w61.cell? ⟨gb200, 0, none⟩ = some (.slice none 0 0) := (blk_cell BK200.out 0).trans rfl; have hcz67_1 : w61.cell? ⟨gb200, 1, none⟩ = some (.slice none 0 0) := (blk_cell BK200.out 1).trans rfl; have hfz67_0 := blk_frozen BK200.out 0; have hfz67_1 := blk_frozen BK200.out 1; obtain ⟨Ao68, co68, eo68⟩ := Kd.R_slice HO198.out; subst eo68) | (go_at_call 21; (with_reducible refine (owned_State.calls k _ _ t168 (⟨#[47, 97, 47, 98]⟩ : ByteArray) t201 _ ?side1 ?side2 A34.out).mono ?_); (case side1 => refine (Kd.R_reads' (e := 45) (base := w.heap.size) (ok := fun k_ => ((((True ∧ some k_ ≠ (.slice Ao48 t164.length co48 : Value).ownBlock) ∧ some k_ ≠ (.slice Ao52 t172.length co52 : Value).ownBlock) ∧ some k_ ≠ (.slice Ao54 t176.length co54 : Value).ownBlock) ∧ some k_ ≠ (v182 : Value).ownBlock)) (n := t168.length) (c := co50) ?_).2.2; exact (by refine kE ?_; exact (Kd.R_mono (Kd.R_mono (Kd.R_far (p := ⟨gb200, 1, none⟩) (Kd.R_far (p := ⟨gb200, 0, none⟩) (Kd.R_far (p := ⟨gb199, 1, none⟩) (Kd.R_far (p := ⟨gb199, 0, none⟩) (Kd.R_types (Kd.R_types HO171.out BK199.out (by decide)) BK200.out (by decide)) (fun _ hk => hk.1.2) (.slice Ao62 t187.length co62)) (fun _ hk => hk.1.2) (.slice Ao65 t190.length co65)) (fun _ hk => hk.2) (.slice Ao66 t193.length co66)) (fun _ hk => hk.2) (.slice Ao68 t196.length co68)) (fun _ h_ => h_.1)) (fun _ h_ => h_.1)))); (case side2 => exact (Kd.R_reads' HO171.out).2.1); rintro e w69 ⟨rfl, hb⟩; have n0_ := am_ (Kd.R_below (by refine kE ?_; exact (Kd.R_mono (Kd.R_mono (Kd.R_far (p := ⟨gb200, 1, none⟩) (Kd.R_far (p := ⟨gb200, 0, none⟩) (Kd.R_far (p := ⟨gb199, 1, none⟩) (Kd.R_far (p := ⟨gb199, 0, none⟩) (Kd.R_types (Kd.R_types HO167.out BK199.out (by decide)) BK200.out (by decide)) (fun _ hk => hk.1.2) (.slice Ao62 t187.length co62)) (fun _ hk => hk.1.2) (.slice Ao65 t190.length co65)) (fun _ hk => hk.2) (.slice Ao66 t193.length co66)) (fun _ hk => hk.2) (.slice Ao68 t196.length co68)) (fun _ h_ => h_.1)) (fun _ h_ => h_.1))) hb); have n1_ := am_ (Kd.R_below (by refine kE ?_; exact (Kd.R_mono (Kd.R_mono (Kd.R_far (p := ⟨gb200, 1, none⟩) (Kd.R_far (p := ⟨gb200, 0, none⟩) (Kd.R_far (p := ⟨gb199, 1, none⟩) (Kd.R_far (p := ⟨gb199, 0, none⟩) (Kd.R_types (Kd.R_types HO171.out BK199.out (by decide)) BK200.out (by decide)) (fun _ hk => hk.1.2) (.slice Ao62 t187.length co62)) (fun _ hk => hk.1.2) (.slice Ao65 t190.length co65)) (fun _ hk => hk.2) (.slice Ao66 t193.length co66)) (fun _ hk => hk.2) (.slice Ao68 t196.length co68)) (fun _ h_ => h_.1)) (fun _ h_ => h_.1))) hb); have n2_ := am_ (Kd.R_below (by refine kE ?_; exact (Kd.R_mono (Kd.R_mono (Kd.R_far (p := ⟨gb200, 1, none⟩) (Kd.R_far (p := ⟨gb200, 0, none⟩) (Kd.R_far (p := ⟨gb199, 1, none⟩) (Kd.R_far (p := ⟨gb199, 0, none⟩) (Kd.R_types (Kd.R_types HO175.out BK199.out (by decide)) BK200.out (by decide)) (fun _ hk => hk.1.2) (.slice Ao62 t187.length co62)) (fun _ hk => hk.1.2) (.slice Ao65 t190.length co65)) (fun _ hk => hk.2) (.slice Ao66 t193.length co66)) (fun _ hk => hk.2) (.slice Ao68 t196.length co68)) (fun _ h_ => h_.1)) (fun _ h_ => h_.1))) hb); have n3_ := am_ (Kd.R_below (by refine kE ?_; exact (Kd.R_mono (Kd.R_mono (Kd.R_far (p := ⟨gb200, 1, none⟩) (Kd.R_far (p := ⟨gb200, 0, none⟩) (Kd.R_far (p := ⟨gb199, 1, none⟩) (Kd.R_far (p := ⟨gb199, 0, none⟩) (Kd.R_types (Kd.R_types HO179.out BK199.out (by decide)) BK200.out (by decide)) (fun _ hk => hk.1.2) (.slice Ao62 t187.length co62)) (fun _ hk => hk.1.2) (.slice Ao65 t190.length co65)) (fun _ hk => hk.2) (.slice Ao66 t193.length co66)) (fun _ hk => hk.2) (.slice Ao68 t196.length co68)) (fun _ h_ => h_.1)) (fun _ h_ => h_.1))) hb); have n4_ := am_ (Kd.R_below (by refine kE ?_; exact (Kd.R_mono (Kd.R_mono (Kd.R_far (p := ⟨gb200, 1, none⟩) (Kd.R_far (p := ⟨gb200, 0, none⟩) (Kd.R_far (p := ⟨gb199, 1, none⟩) (Kd.R_far (p := ⟨gb199, 0, none⟩) (Kd.R_types (Kd.R_types HO183.out BK199.out (by decide)) BK200.out (by decide)) (fun _ hk => hk.1.2) (.slice Ao62 t187.length co62)) (fun _ hk => hk.1.2) (.slice Ao65 t190.length co65)) (fun _ hk => hk.2) (.slice Ao66 t193.length co66)) (fun _ hk => hk.2) (.slice Ao68 t196.length co68)) (fun _ h_ => h_.1)) (fun _ h_ => h_.1))) hb); have n5_ := am_ (Kd.R_below (by refine kE ?_; exact (Kd.R_mono (Kd.R_mono (Kd.R_far (p := ⟨gb200, 1, none⟩) (Kd.R_far (p := ⟨gb200, 0, none⟩) (Kd.R_far (p := ⟨gb199, 1, none⟩) (Kd.R_far (p := ⟨gb199, 0, none⟩) (Kd.R_types (Kd.R_types HO186.out BK199.out (by decide)) BK200.out (by decide)) (fun _ hk => hk.1.2) (.slice Ao62 t187.length co62)) (fun _ hk => hk.1.2) (.slice Ao65 t190.length co65)) (fun _ hk => hk.2) (.slice Ao66 t193.length co66)) (fun _ hk => hk.2) (.slice Ao68 t196.length co68)) (fun _ h_ => h_.1)) (fun _ h_ => h_.1))) hb); have n6_ := am_ (Kd.R_below (by refine kE ?_; exact (Kd.R_mono (Kd.R_mono (Kd.R_far (p := ⟨gb200, 1, none⟩) (Kd.R_far (p := ⟨gb200, 0, none⟩) (Kd.R_far (p := ⟨gb199, 1, none⟩) (Kd.R_far (p := ⟨gb199, 0, none⟩) (Kd.R_types (Kd.R_types HO189.out BK199.out (by decide)) BK200.out (by decide)) (fun _ hk => hk.1.2) (.slice Ao62 t187.length co62)) (fun _ hk => hk.1.2) (.slice Ao65 t190.length co65)) (fun _ hk => hk.2) (.slice Ao66 t193.length co66)) (fun _ hk => hk.2) (.slice Ao68 t196.length co68)) (fun _ h_ => h_.1)) (fun _ h_ => h_.1))) hb); have n7_ := am_ (Kd.R_below (by refine kE ?_; exact (Kd.R_mono (Kd.R_mono (Kd.R_far (p := ⟨gb200, 1, none⟩) (Kd.R_far (p := ⟨gb200, 0, none⟩) (Kd.R_far (p := ⟨gb199, 1, none⟩) (Kd.R_far (p := ⟨gb199, 0, none⟩) (Kd.R_types (Kd.R_types HO192.out BK199.out (by decide)) BK200.out (by decide)) (fun _ hk => hk.1.2) (.slice Ao62 t187.length co62)) (fun _ hk => hk.1.2) (.slice Ao65 t190.length co65)) (fun _ hk => hk.2) (.slice Ao66 t193.length co66)) (fun _ hk => hk.2) (.slice Ao68 t196.length co68)) (fun _ h_ => h_.1)) (fun _ h_ => h_.1))) hb); have n8_ := am_ (Kd.R_below (by refine kE ?_; exact (Kd.R_mono (Kd.R_mono (Kd.R_far (p := ⟨gb200, 1, none⟩) (Kd.R_far (p := ⟨gb200, 0, none⟩) (Kd.R_far (p := ⟨gb199, 1, none⟩) (Kd.R_far (p := ⟨gb199, 0, none⟩) (Kd.R_types (Kd.R_types HO195.out BK199.out (by decide)) BK200.out (by decide)) (fun _ hk => hk.1.2) (.slice Ao62 t187.length co62)) (fun _ hk => hk.1.2) (.slice Ao65 t190.length co65)) (fun _ hk => hk.2) (.slice Ao66 t193.length co66)) (fun _ hk => hk.2) (.slice Ao68 t196.length co68)) (fun _ h_ => h_.1)) (fun _ h_ => h_.1))) hb); have n9_ := am_ (Kd.R_below (by refine kE ?_; exact (Kd.R_mono (Kd.R_mono (Kd.R_far (p := ⟨gb200, 1, none⟩) (Kd.R_far (p := ⟨gb200, 0, none⟩) (Kd.R_far (p := ⟨gb199, 1, none⟩) (Kd.R_far (p := ⟨gb199, 0, none⟩) (Kd.R_types (Kd.R_types HO198.out BK199.out (by decide)) BK200.out (by decide)) (fun _ hk => hk.1.2) (.slice Ao62 t187.length co62)) (fun _ hk => hk.1.2) (.slice Ao65 t190.length co65)) (fun _ hk => hk.2) (.slice Ao66 t193.length co66)) (fun _ hk => hk.2) (.slice Ao68 t196.length co68)) (fun _ h_ => h_.1)) (fun _ h_ => h_.1))) hb); have n10_ := am_ (blk_below (g := gb199) (o := .cells #[.slice Ao62 t187.length co62, .slice Ao65 t190.length co65] 34 (0, 0)) (by refine kD ?_; refine blk_far ?_ NB199_200.out _; refine kD ?_; refine blk_far ?_ NB199_200.out _; refine kD ?_; refine blk_put (cs := #[.slice Ao62 t187.length co62, .slice none 0 0]) ?_ 1 _ rfl; refine kD ?_; refine blk_put (cs := #[.slice none 0 0, .slice none 0 0]) ?_ 0 _ rfl; refine kD ?_; exact BK199.out) hb); have n11_ := am_ (blk_below (g := gb200) (o := .cells #[.slice Ao66 t193.length co66, .slice Ao68 t196.length co68] 34 (0, 0)) (by refine kD ?_; refine blk_put (cs := #[.slice Ao66 t193.length co66, .slice none 0 0]) ?_ 1 _ rfl; refine kD ?_; refine blk_put (cs := #[.slice none 0 0, .slice none 0 0]) ?_ 0 _ rfl; refine kD ?_; refine blk_far ?_ NB200_199.out _; refine kD ?_; refine blk_far ?_ NB200_199.out _; refine kD ?_; exact BK200.out) hb); have n12_ := am_ (below_step (kZ HB) hb); clear HO167; clear HO171; clear HO175; clear HO179; clear HO183; clear HO186; clear HO189; clear HO192; clear HO195; clear HO198; clear BK199; clear BK200; clear HB; have HO167 := n0_; have HO171 := n1_; have HO175 := n2_; have HO179 := n3_; have HO183 := n4_; have HO186 := n5_; have HO189 := n6_; have HO192 := n7_; have HO195 := n8_; have HO198 := n9_; have BK199 := n10_; have BK200 := n11_; have HB := n12_; clear n0_ n1_ n2_ n3_ n4_ n5_ n6_ n7_ n8_ n9_ n10_ n11_ n12_; (try clear hb); (try clear hb2); (try clear hk); (try clear hi)) | (go_at_call 21; (with_reducible refine (owned_State.calls k _ _ t168 (⟨#[47, 98]⟩ : ByteArray) t202 _ ?side1 ?side2 A36.out).mono ?_); (case side1 => exact kC ((Kd.R_reads' HO171.out).2.2)); (case side2 => exact (Kd.R_reads' HO171.out).2.1); rintro e w70 ⟨rfl, hb⟩; have n0_ := am_ (Kd.R_below (kR HO167) hb); have n1_ := am_ (Kd.R_below (kR HO171) hb); have n2_ := am_ (Kd.R_below (kR HO175) hb); have n3_ := am_ (Kd.R_below (kR HO179) hb); have n4_ := am_ (Kd.R_below (kR HO183) hb); have n5_ := am_ (Kd.R_below (kR HO186) hb); have n6_ := am_ (Kd.R_below (kR HO189) hb); have n7_ := am_ (Kd.R_below (kR HO192) hb); have n8_ := am_ (Kd.R_below (kR HO195) hb); have n9_ := am_ (Kd.R_below (kR HO198) hb); have n10_ := am_ (blk_below (kB BK199) hb); have n11_ := am_ (blk_below (kB BK200) hb); have n12_ := am_ (below_step (kZ HB) hb); clear HO167; clear HO171; clear HO175; clear HO179; clear HO183; clear HO186; clear HO189; clear HO192; clear HO195; clear HO198; clear BK199; clear BK200; clear HB; have HO167 := n0_; have HO171 := n1_; have HO175 := n2_; have HO179 := n3_; have HO183 := n4_; have HO186 := n5_; have HO189 := n6_; have HO192 := n7_; have HO195 := n8_; have HO198 := n9_; have BK199 := n10_; have BK200 := n11_; have HB := n12_; clear n0_ n1_ n2_ n3_ n4_ n5_ n6_ n7_ n8_ n9_ n10_ n11_ n12_; (try clear hb); (try clear hb2); (try clear hk); (try clear hi)) | (go_at_call 21; (with_reducible refine (owned_State.calls k _ _ t176 (⟨#[47, 97]⟩ : ByteArray) t203 _ ?side1 ?side2 A38.out).mono ?_); (case side1 => exact kC ((Kd.R_reads' HO179.out).2.2)); (case side2 => exact (Kd.R_reads' HO179.out).2.1); rintro e w71 ⟨rfl, hb⟩; have n0_ := am_ (Kd.R_below (kR HO167) hb); have n1_ := am_ (Kd.R_below (kR HO171) hb); have n2_ := am_ (Kd.R_below (kR HO175) hb); have n3_ := am_ (Kd.R_below (kR HO179) hb); have n4_ := am_ (Kd.R_below (kR HO183) hb); have n5_ := am_ (Kd.R_below (kR HO186) hb); have n6_ := am_ (Kd.R_below (kR HO189) hb); have n7_ := am_ (Kd.R_below (kR HO192) hb); have n8_ := am_ (Kd.R_below (kR HO195) hb); have n9_ := am_ (Kd.R_below (kR HO198) hb); have n10_ := am_ (blk_below (kB BK199) hb); have n11_ := am_ (blk_below (kB BK200) hb); have n12_ := am_ (below_step (kZ HB) hb); clear HO167; clear HO171; clear HO175; clear HO179; clear HO183; clear HO186; clear HO189; clear HO192; clear HO195; clear HO198; clear BK199; clear BK200; clear HB; have HO167 := n0_; have HO171 := n1_; have HO175 := n2_; have HO179 := n3_; have HO183 := n4_; have HO186 := n5_; have HO189 := n6_; have HO192 := n7_; have HO195 := n8_; have HO198 := n9_; have BK199 := n10_; have BK200 := n11_; have HB := n12_; clear n0_ n1_ n2_ n3_ n4_ n5_ n6_ n7_ n8_ n9_ n10_ n11_ n12_; (try clear hb); (try clear hb2); (try clear hk); (try clear hi)) | (go_at_call 19; (with_reducible refine (owned_Of.calls k _ _ t168 (⟨#[47, 97]⟩ : ByteArray) t204 _ ?side1 ?side2 A40.out).mono ?_); (case side1 => exact kC ((Kd.R_reads' HO171.out).2.2)); (case side2 => exact (Kd.R_reads' HO171.out).2.1); rintro e w72 ⟨rfl, hb⟩; have n0_ := am_ (Kd.R_below (kR HO167) hb); have n1_ := am_ (Kd.R_below (kR HO171) hb); have n2_ := am_ (Kd.R_below (kR HO175) hb); have n3_ := am_ (Kd.R_below (kR HO179) hb); have n4_ := am_ (Kd.R_below (kR HO183) hb); have n5_ := am_ (Kd.R_below (kR HO186) hb); have n6_ := am_ (Kd.R_below (kR HO189) hb); have n7_ := am_ (Kd.R_below (kR HO192) hb); have n8_ := am_ (Kd.R_below (kR HO195) hb); have n9_ := am_ (Kd.R_below (kR HO198) hb); have n10_ := am_ (blk_below (kB BK199) hb); have n11_ := am_ (blk_below (kB BK200) hb); have n12_ := am_ (below_step (kZ HB) hb); clear HO167; clear HO171; clear HO175; clear HO179; clear HO183; clear HO186; clear HO189; clear HO192; clear HO195; clear HO198; clear BK199; clear BK200; clear HB; have HO167 := n0_; have HO171 := n1_; have HO175 := n2_; have HO179 := n3_; have HO183 := n4_; have HO186 := n5_; have HO189 := n6_; have HO192 := n7_; have HO195 := n8_; have HO198 := n9_; have BK199 := n10_; have BK200 := n11_; have HB := n12_; clear n0_ n1_ n2_ n3_ n4_ n5_ n6_ n7_ n8_ n9_ n10_ n11_ n12_; (try clear hb); (try clear hb2); (try clear hk); (try clear hi)) | (go_at_call 21; (refine (owned_State.calls k _ _ ([] : List (S45)) (⟨#[47]⟩ : ByteArray) t205 _ ?side1 ?side2 A42.out).mono ?_); (case side1 => exact Kd.C_nil _ _); (case side2 => exact Nat.le_refl _); rintro e w73 ⟨rfl, hb⟩; have n0_ := am_ (Kd.R_below (kR HO167) hb); have n1_ := am_ (Kd.R_below (kR HO171) hb); have n2_ := am_ (Kd.R_below (kR HO175) hb); have n3_ := am_ (Kd.R_below (kR HO179) hb); have n4_ := am_ (Kd.R_below (kR HO183) hb); have n5_ := am_ (Kd.R_below (kR HO186) hb); have n6_ := am_ (Kd.R_below (kR HO189) hb); have n7_ := am_ (Kd.R_below (kR HO192) hb); have n8_ := am_ (Kd.R_below (kR HO195) hb); have n9_ := am_ (Kd.R_below (kR HO198) hb); have n10_ := am_ (blk_below (kB BK199) hb); have n11_ := am_ (blk_below (kB BK200) hb); have n12_ := am_ (below_step (kZ HB) hb); clear HO167; clear HO171; clear HO175; clear HO179; clear HO183; clear HO186; clear HO189; clear HO192; clear HO195; clear HO198; clear BK199; clear BK200; clear HB; have HO167 := n0_; have HO171 := n1_; have HO175 := n2_; have HO179 := n3_; have HO183 := n4_; have HO186 := n5_; have HO189 := n6_; have HO192 := n7_; have HO195 := n8_; have HO198 := n9_; have BK199 := n10_; have BK200 := n11_; have HB := n12_; clear n0_ n1_ n2_ n3_ n4_ n5_ n6_ n7_ n8_ n9_ n10_ n11_ n12_; (try clear hb); (try clear hb2); (try clear hk); (try clear hi); have hcz74_0 : w73.cell? ⟨gb199, 0, none⟩ = some (.slice Ao62 t187.length co62) := (blk_cell BK199.out 0).trans rfl; have hcz74_1 : w73.cell? ⟨gb199, 1, none⟩ = some (.slice Ao65 t190.length co65) := (blk_cell BK199.out 1).trans rfl; have hfz74_0 := blk_frozen BK199.out 0; have hfz74_1 := blk_frozen BK199.out 1; have hcz75_0 : w73.cell? ⟨gb200, 0, none⟩ = some (.slice Ao66 t193.length co66) := (blk_cell BK200.out 0).trans rfl; have hcz75_1 : w73.cell? ⟨gb200, 1, none⟩ = some (.slice Ao68 t196.length co68) := (blk_cell BK200.out 1).trans rfl; have hfz75_0 := blk_frozen BK200.out 0; have hfz75_1 := blk_frozen BK200.out 1) | (go_at_call 17; (with_reducible refine (owned_Right.calls k _ _ t168 t206 _ ?side1 ?side2 A46.out).mono ?_); (case side1 => exact kC ((Kd.R_reads' HO171.out).2.2)); (case side2 => exact (Kd.R_reads' HO171.out).2.1); rintro e w76 ⟨rfl, hb⟩; have n0_ := am_ (Kd.R_below (kR HO167) hb); have n1_ := am_ (Kd.R_below (kR HO171) hb); have n2_ := am_ (Kd.R_below (kR HO175) hb); have n3_ := am_ (Kd.R_below (kR HO179) hb); have n4_ := am_ (Kd.R_below (kR HO183) hb); have n5_ := am_ (Kd.R_below (kR HO186) hb); have n6_ := am_ (Kd.R_below (kR HO189) hb); have n7_ := am_ (Kd.R_below (kR HO192) hb); have n8_ := am_ (Kd.R_below (kR HO195) hb); have n9_ := am_ (Kd.R_below (kR HO198) hb); have n10_ := am_ (blk_below (kB BK199) hb); have n11_ := am_ (blk_below (kB BK200) hb); have n12_ := am_ (below_step (kZ HB) hb); clear HO167; clear HO171; clear HO175; clear HO179; clear HO183; clear HO186; clear HO189; clear HO192; clear HO195; clear HO198; clear BK199; clear BK200; clear HB; have HO167 := n0_; have HO171 := n1_; have HO175 := n2_; have HO179 := n3_; have HO183 := n4_; have HO186 := n5_; have HO189 := n6_; have HO192 := n7_; have HO195 := n8_; have HO198 := n9_; have BK199 := n10_; have BK200 := n11_; have HB := n12_; clear n0_ n1_ n2_ n3_ n4_ n5_ n6_ n7_ n8_ n9_ n10_ n11_ n12_; (try clear hb); (try clear hb2); (try clear hk); (try clear hi)))
  go_ret
  exact ⟨e2_, kZ HB⟩
theorem cantonlaw11_head.mono_le (k : Nat) : ∀ n r, cantonlaw11_head.f k = some r → cantonlaw11_head.f (k + n) = some r
  | 0, _, h => h
  | n + 1, r, h => cantonlaw11_head.mono (k + n) r (cantonlaw11_head.mono_le k n r h)
theorem cantonlaw11_head.at50 : cantonlaw11_head.f 50 = some true := by kernel_rfl
theorem cantonlaw11_head.only (k : Nat) (r : Bool) (h : cantonlaw11_head.f k = some r) : r = true := by
  have h1 := cantonlaw11_head.mono_le k 50 r h
  have h2 := cantonlaw11_head.mono_le 50 k true cantonlaw11_head.at50
  rw [Nat.add_comm] at h2
  exact Option.some.inj (h1.symm.trans h2)
theorem cantonlaw11_head.calls (k : Nat)  (r : Bool) (w : World) (h : cantonlaw11_head.f k  = some r) :
  Calls Try.prog 9 #[] w fun e w' => e = .returned (.bool r) ∧ Below w.heap.size w w' := by
  have hr := cantonlaw11_head.only k r h
  exact cantonlaw11_head.calls_true k r w hr h

/-! ### cantonlaw11_Great: function 10 -/
def cantonlaw11_Great.l0 : Nat → List (S45) → Int → Int → Option (Bool)
 | 0, _, _, _ => none
 | k + 1, x0, x3, x4 => if x4 < (x0.length : Int) then (if x3 < 3000 then (if 0 ≤ x4 then (cantonlaw11_Great.l0 k x0 (wrap64 (x3 + (mn (((rd_T45 x0 x4).f0).size : Int) 3000))) (wrap64 (x4 + 1))) else (none)) else (some (decide (x3 ≥ 3000)))) else (some (decide (x3 ≥ 3000)))
def cantonlaw11_Great.f (k : Nat) (l0 : List (S45)) : Option (Bool) := cantonlaw11_Great.l0 k l0 (l0.length : Int) 0
theorem cantonlaw11_Great.mono_l : ∀ k, (∀ y0 y1 y2, LeO (cantonlaw11_Great.l0 k y0 y1 y2) (cantonlaw11_Great.l0 (k + 1) y0 y1 y2))
 | 0 => fun _ _ _ r h => by simp [cantonlaw11_Great.l0] at h
 | k + 1 => by
  have ih0 := cantonlaw11_Great.mono_l k
  ·intro y0 y1 y2
   unfold cantonlaw11_Great.l0
   repeat' first
   | (with_reducible exact ih0 _ _ _)
   | (with_reducible exact LeO.refl _)
   | (with_reducible exact LeO.none _)
   | (with_reducible refine LeO.ite ?_ ?_)
   | (with_reducible refine LeO.bind ?_ (fun _ => ?_))
   | exact ih0 _ _ _
   | exact LeO.none _
   | refine LeO.ite ?_ ?_
   | refine LeO.bind ?_ (fun _ => ?_)
theorem cantonlaw11_Great.mono : ∀ a0 k, LeO (cantonlaw11_Great.f k a0) (cantonlaw11_Great.f (k + 1) a0) := by
 intro a0 k
 have ih0 := cantonlaw11_Great.mono_l k
 unfold cantonlaw11_Great.f
 repeat' first
   | (with_reducible exact ih0 _ _ _)
   | (with_reducible exact LeO.refl _)
   | (with_reducible exact LeO.none _)
   | (with_reducible refine LeO.ite ?_ ?_)
   | (with_reducible refine LeO.bind ?_ (fun _ => ?_))
   | exact ih0 _ _ _
   | exact LeO.none _
   | refine LeO.ite ?_ ?_
   | refine LeO.bind ?_ (fun _ => ?_)
set_option maxHeartbeats 8000000 in
set_option maxRecDepth 100000 in
theorem cantonlaw11_Great.calls (k : Nat) (A0 : Option Addr) (c0 : Nat) (l0 : List (S45)) (r : Bool) (w : World) (hr0 : Kd.C k45 w A0 l0.length l0) (hc0 : l0.length ≤ c0) (h : cantonlaw11_Great.f k l0 = some r) :
  Calls Try.prog 10 #[.slice A0 l0.length c0] w fun e w' => e = .returned (.bool r) ∧ Below w.heap.size w w' := by
 have HR0 := am_ hr0
 have HC0 := am_ hc0
 clear hr0 hc0
 have HB := am_ (Below.refl w.heap.size w)
 have H : (cantonlaw11_Great.l0 k l0 (l0.length : Int) 0) = some r := h
 clear h
 have H' := am_ H
 clear H
 go_enter Try.func10, Try.ntmps10
 go_wp2
 go_loopg [3, 4] k (fun kq v3 v4 w' => ∃ (x3_1 : Int) (x4_1 : Int), v3 = .int .i64 x3_1 ∧ v4 = .int .i64 x4_1 ∧ Aside0 (cantonlaw11_Great.l0 kq l0 x3_1 x4_1 = some r) ∧ Aside0 (kq ≤ k) ∧ Aside0 (Below w.heap.size w w'))
 case atStart => exact ⟨((l0.length : Int)), (0), e1_, e1_, H', ⟨Nat.le_refl _⟩, ⟨kZ HB⟩⟩
 case round =>
  clear H'
  obtain ⟨x3_1, x4_1, rfl, rfl, HA, HK1, HB⟩ := hrel
  cases gk with
  | zero => exact absurd HA.out (by simp [cantonlaw11_Great.l0])
  | succ k1 =>
   have H := HA.out
   clear HA
   simp only [cantonlaw11_Great.l0] at H
   by_cases c2 : x4_1 < (l0.length : Int)
   rotate_left
   ·rw [if_neg c2] at H
    have c2b0 : decide (x4_1 < (l0.length : Int)) = false := decide_eq_false c2
    clear c2
    obtain rfl := Option.some.inj H
    go_wp2
    go_ret
    exact ⟨e2_, kZ HB⟩

   rw [if_pos c2] at H
   have c2b0 : decide (x4_1 < (l0.length : Int)) = true := decide_eq_true c2
   clear c2
   by_cases c3 : x3_1 < 3000
   rotate_left
   ·rw [if_neg c3] at H
    have c3b0 : decide (x3_1 < 3000) = false := decide_eq_false c3
    clear c3
    obtain rfl := Option.some.inj H
    go_wp2
    go_ret
    exact ⟨e2_, kZ HB⟩
   rw [if_pos c3] at H
   have c3b0 : decide (x3_1 < 3000) = true := decide_eq_true c3
   clear c3
   by_cases c4 : 0 ≤ x4_1
   rotate_left
   ·rw [if_neg c4] at H
    exact absurd H (by simp)
   rw [if_pos c4] at H
   have c4b0 : decide (0 ≤ x4_1) = true := decide_eq_true c4
   clear c4
   obtain ⟨ji5, hji5⟩ : ∃ j_ : Int, (mn (((rd_T45 l0 x4_1).f0).size : Int) 3000) = j_ := ⟨_, rfl⟩
   replace H : (cantonlaw11_Great.l0 k1 l0 (wrap64 (x3_1 + (ji5))) (wrap64 (x4_1 + 1))) = some r := by first | (rw [hji5] at H; exact H) | (simp only [hji5] at H ⊢; exact H)
   have hji5_ : (if 3000 < (((rd_T45 l0 x4_1).f0).size : Int) then 3000 else (((rd_T45 l0 x4_1).f0).size : Int)) = ji5 := hji5
   have H' := am_ H
   clear H
   have p207 : 0 ≤ (x4_1 : Int) := od_
   have q207 : x4_1 < (l0.length : Int) := od_
   obtain ⟨ad207, e207, hx207_0, hx207_1, hx207_2⟩ := at_T45 HR0.out x4_1 p207 q207
   cases e207
   replace hx207_0 := pw_cell_below HB.out hx207_0
   replace hx207_1 := pw_cell_below HB.out hx207_1
   replace hx207_2 := pw_cell_below HB.out hx207_2
   replace p207 := eq_true p207
   replace q207 := eq_true q207
   go_wp2
   go_roundg k1
   case measure => have := HK1.out; omega
   case rel => exact ⟨(wrap64 (x3_1 + (ji5))), (wrap64 (x4_1 + 1)), (by first | rfl | (simp; done) | (simp only [← hji5] <;> (first | rfl | simp)) | (simp [*]; done)), e1_, H', ⟨by have := HK1.out; omega⟩, ⟨kZ HB⟩⟩
end Go.Proofs.Ytinjajpnbbknnaa.Q
