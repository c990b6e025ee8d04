-- Written by a program of this session (xprint) out of the translation; over contracts proved by hand.
import Derived.Test.YtclomgbiomojjaaQx0
import Derived.Test.YtclomgbiomojjaaSq
import Derived.Test.YtclomgbiomojjaaQx2b
import Derived.Test.YtclomgbiomojjaaQx4
import Derived.Test.YtclomgbiomojjaaLHeld
import Derived.Test.YtclomgbiomojjaaLTake
namespace Go.Proofs.Ytclomgbiomojjaa.LDir2
end Go.Proofs.Ytclomgbiomojjaa.LDir2
namespace Go.Proofs.Ytclomgbiomojjaa.LFree
end Go.Proofs.Ytclomgbiomojjaa.LFree
namespace Go.Proofs.Ytclomgbiomojjaa.LHeld
end Go.Proofs.Ytclomgbiomojjaa.LHeld
namespace Go.Proofs.Ytclomgbiomojjaa.LRgt
end Go.Proofs.Ytclomgbiomojjaa.LRgt
namespace Go.Proofs.Ytclomgbiomojjaa.LTake
end Go.Proofs.Ytclomgbiomojjaa.LTake
namespace Go.Proofs.Ytclomgbiomojjaa.New
end Go.Proofs.Ytclomgbiomojjaa.New
namespace Go.Proofs.Ytclomgbiomojjaa.Split
end Go.Proofs.Ytclomgbiomojjaa.Split
namespace Go.Proofs.Ytclomgbiomojjaa.Q
open Go.Proofs.Ytclomgbiomojjaa.LDir2 Go.Proofs.Ytclomgbiomojjaa.LFree Go.Proofs.Ytclomgbiomojjaa.LHeld Go.Proofs.Ytclomgbiomojjaa.LRgt Go.Proofs.Ytclomgbiomojjaa.LTake Go.Proofs.Ytclomgbiomojjaa.New Go.Proofs.Ytclomgbiomojjaa.Split
set_option linter.unnecessarySimpa false
open Go.RowKit Go.Proofs.YtclomgbiomojjaaW.PrintWords Go.Proofs.YtclomgbiomojjaaW.PrintLast Go.Proofs.YtclomgbiomojjaaW.PrintMore
attribute [local go_sem] max2_int min2_int max_two min_two max_three min_three max_four min_four   -- for this text's walks alone
set_option linter.unusedVariables false
set_option linter.unusedSimpArgs false

/-! ### cantonlaw10_LocksFree: function 5 -/
mutual
def cantonlaw10_LocksFree.j0 : Nat → List (S34) → Int → Bool → Bool → Option (Bool)
 | 0, _, _, _, _ => none
 | k + 1, x0, x1, x5, x25 => if x25 = true then (some x5) else ((locks_Free.f x0 x1).bind fun t254 => (cantonlaw10_LocksFree.l0 k x0 x1 x5 t254 0 ([] : List ByteArray) 0))
def cantonlaw10_LocksFree.l0 : Nat → List (S34) → Int → Bool → List (S34) → Int → List ByteArray → Int → Option (Bool)
 | 0, _, _, _, _, _, _, _ => none
 | k + 1, x0, x1, x5, x6, x7, x8, x9 => if x9 < (x0.length : Int) then (if 0 ≤ x9 then ((locks_Held.f x6 ((rd_T34 x0 x9).f0)).bind fun bt258 => (if (bt258.2 != (((rd_T34 x0 x9).f1) != x1)) = true then (cantonlaw10_LocksFree.j2 k x0 x1 x5 x6 x7 x8 x9 true) else (if bt258.2 = true then (cantonlaw10_LocksFree.j2 k x0 x1 x5 x6 x7 x8 x9 (bt258.1 != ((rd_T34 x0 x9).f1))) else (cantonlaw10_LocksFree.j2 k x0 x1 x5 x6 x7 x8 x9 false)))) else (none)) else (if (x6.length : Int) = (wrap64 ((x0.length : Int) - x7)) then ((cantonref10_Right.f k x6).bind fun t267 => (cantonlaw10_LocksFree.j3 k x0 x5 x6 x8 (!t267))) else (cantonlaw10_LocksFree.j3 k x0 x5 x6 x8 true))
def cantonlaw10_LocksFree.j2 : Nat → List (S34) → Int → Bool → List (S34) → Int → List ByteArray → Int → Bool → Option (Bool)
 | 0, _, _, _, _, _, _, _, _ => none
 | k + 1, x0, x1, x5, x6, x7, x8, x9, x66 => if x66 = true then (some false) else (if 0 ≤ x9 then (if x9 < (x0.length : Int) then (if ((rd_T34 x0 x9).f1) = x1 then (if x8.length < 8796093022208 then (cantonlaw10_LocksFree.l0 k x0 x1 x5 x6 (wrap64 (x7 + 1)) (x8 ++ [(rd_T34 x0 x9).f0]) (wrap64 (x9 + 1))) else (none)) else (cantonlaw10_LocksFree.l0 k x0 x1 x5 x6 x7 x8 (wrap64 (x9 + 1)))) else (none)) else (none))
def cantonlaw10_LocksFree.j3 : Nat → List (S34) → Bool → List (S34) → List ByteArray → Bool → Option (Bool)
 | 0, _, _, _, _, _ => none
 | k + 1, x0, x5, x6, x8, x95 => if x95 = true then (some false) else (cantonlaw10_LocksFree.l1 k x0 x5 x6 x8 0)
def cantonlaw10_LocksFree.l1 : Nat → List (S34) → Bool → List (S34) → List ByteArray → Int → Option (Bool)
 | 0, _, _, _, _, _ => none
 | k + 1, x0, x5, x6, x8, x12 => if x12 ≤ 200 then (cantonlaw10_LocksFree.l2 k x0 x5 x6 x8 x12 false 0) else (some false)
def cantonlaw10_LocksFree.l2 : Nat → List (S34) → Bool → List (S34) → List ByteArray → Int → Bool → Int → Option (Bool)
 | 0, _, _, _, _, _, _, _ => none
 | k + 1, x0, x5, x6, x8, x12, x13, x14 => if x14 < (x6.length : Int) then (if x13 = true then (cantonlaw10_LocksFree.l2 k x0 x5 x6 x8 x12 true (wrap64 (x14 + 1))) else (if 0 ≤ x14 then (cantonlaw10_LocksFree.l2 k x0 x5 x6 x8 x12 (((rd_T34 x6 x14).f1) == x12) (wrap64 (x14 + 1))) else (none))) else (if x13 = true then (cantonlaw10_LocksFree.l1 k x0 x5 x6 x8 (wrap64 (x12 + 1))) else ((locks_Take.f x6 x12 1 x8).bind fun bt269 => (if x5 = true then (if bt269.2.2 = true then (some ((bt269.1.length : Int) == (x0.length : Int))) else (some false)) else (some false))))
end
def cantonlaw10_LocksFree.f (k : Nat) (l0 : List (S34)) (a1 : Int) : Option (Bool) := (cantonlaw10_head.f).bind fun t251 => ((cantonlaw10_great.f k l0 ([] : List ByteArray)).bind fun t252 => (if t252 = true then (cantonlaw10_LocksFree.j0 k l0 a1 t251 true) else ((cantonref10_Right.f k l0).bind fun t253 => (cantonlaw10_LocksFree.j0 k l0 a1 t251 (!t253)))))
theorem cantonlaw10_LocksFree.mono_l : ∀ k, (∀ y0 y1 y2 y3, LeO (cantonlaw10_LocksFree.j0 k y0 y1 y2 y3) (cantonlaw10_LocksFree.j0 (k + 1) y0 y1 y2 y3)) ∧ (∀ y0 y1 y2 y3 y4 y5 y6, LeO (cantonlaw10_LocksFree.l0 k y0 y1 y2 y3 y4 y5 y6) (cantonlaw10_LocksFree.l0 (k + 1) y0 y1 y2 y3 y4 y5 y6)) ∧ (∀ y0 y1 y2 y3 y4 y5 y6 y7, LeO (cantonlaw10_LocksFree.j2 k y0 y1 y2 y3 y4 y5 y6 y7) (cantonlaw10_LocksFree.j2 (k + 1) y0 y1 y2 y3 y4 y5 y6 y7)) ∧ (∀ y0 y1 y2 y3 y4, LeO (cantonlaw10_LocksFree.j3 k y0 y1 y2 y3 y4) (cantonlaw10_LocksFree.j3 (k + 1) y0 y1 y2 y3 y4)) ∧ (∀ y0 y1 y2 y3 y4, LeO (cantonlaw10_LocksFree.l1 k y0 y1 y2 y3 y4) (cantonlaw10_LocksFree.l1 (k + 1) y0 y1 y2 y3 y4)) ∧ (∀ y0 y1 y2 y3 y4 y5 y6, LeO (cantonlaw10_LocksFree.l2 k y0 y1 y2 y3 y4 y5 y6) (cantonlaw10_LocksFree.l2 (k + 1) y0 y1 y2 y3 y4 y5 y6))
 | 0 => ⟨fun _ _ _ _ r h => by simp [cantonlaw10_LocksFree.j0] at h, fun _ _ _ _ _ _ _ r h => by simp [cantonlaw10_LocksFree.l0] at h, fun _ _ _ _ _ _ _ _ r h => by simp [cantonlaw10_LocksFree.j2] at h, fun _ _ _ _ _ r h => by simp [cantonlaw10_LocksFree.j3] at h, fun _ _ _ _ _ r h => by simp [cantonlaw10_LocksFree.l1] at h, fun _ _ _ _ _ _ _ r h => by simp [cantonlaw10_LocksFree.l2] at h⟩
 | k + 1 => by
  obtain ⟨ih0, ih1, ih2, ih3, ih4, ih5⟩ := cantonlaw10_LocksFree.mono_l k
  refine ⟨?_, ?_, ?_, ?_, ?_, ?_⟩
  ·intro y0 y1 y2 y3
   unfold cantonlaw10_LocksFree.j0
   repeat' first
   | (with_reducible exact ih0 _ _ _ _)
   | (with_reducible exact ih1 _ _ _ _ _ _ _)
   | (with_reducible exact ih2 _ _ _ _ _ _ _ _)
   | (with_reducible exact ih3 _ _ _ _ _)
   | (with_reducible exact ih4 _ _ _ _ _)
   | (with_reducible exact ih5 _ _ _ _ _ _ _)
   | (with_reducible exact cantonlaw10_great.mono _ _ _)
   | (with_reducible exact cantonref10_Right.mono _ _)
   | (with_reducible exact LeO.refl _)
   | (with_reducible exact LeO.none _)
   | (with_reducible refine LeO.ite ?_ ?_)
   | (with_reducible refine LeO.bind ?_ (fun _ => ?_))
   | exact ih0 _ _ _ _
   | exact ih1 _ _ _ _ _ _ _
   | exact ih2 _ _ _ _ _ _ _ _
   | exact ih3 _ _ _ _ _
   | exact ih4 _ _ _ _ _
   | exact ih5 _ _ _ _ _ _ _
   | exact cantonlaw10_great.mono _ _ _
   | exact cantonref10_Right.mono _ _
   | exact LeO.none _
   | refine LeO.ite ?_ ?_
   | refine LeO.bind ?_ (fun _ => ?_)
  ·intro y0 y1 y2 y3 y4 y5 y6
   unfold cantonlaw10_LocksFree.l0
   repeat' first
   | (with_reducible exact ih0 _ _ _ _)
   | (with_reducible exact ih1 _ _ _ _ _ _ _)
   | (with_reducible exact ih2 _ _ _ _ _ _ _ _)
   | (with_reducible exact ih3 _ _ _ _ _)
   | (with_reducible exact ih4 _ _ _ _ _)
   | (with_reducible exact ih5 _ _ _ _ _ _ _)
   | (with_reducible exact cantonlaw10_great.mono _ _ _)
   | (with_reducible exact cantonref10_Right.mono _ _)
   | (with_reducible exact LeO.refl _)
   | (with_reducible exact LeO.none _)
   | (with_reducible refine LeO.ite ?_ ?_)
   | (with_reducible refine LeO.bind ?_ (fun _ => ?_))
   | exact ih0 _ _ _ _
   | exact ih1 _ _ _ _ _ _ _
   | exact ih2 _ _ _ _ _ _ _ _
   | exact ih3 _ _ _ _ _
   | exact ih4 _ _ _ _ _
   | exact ih5 _ _ _ _ _ _ _
   | exact cantonlaw10_great.mono _ _ _
   | exact cantonref10_Right.mono _ _
   | exact LeO.none _
   | refine LeO.ite ?_ ?_
   | refine LeO.bind ?_ (fun _ => ?_)
  ·intro y0 y1 y2 y3 y4 y5 y6 y7
   unfold cantonlaw10_LocksFree.j2
   repeat' first
   | (with_reducible exact ih0 _ _ _ _)
   | (with_reducible exact ih1 _ _ _ _ _ _ _)
   | (with_reducible exact ih2 _ _ _ _ _ _ _ _)
   | (with_reducible exact ih3 _ _ _ _ _)
   | (with_reducible exact ih4 _ _ _ _ _)
   | (with_reducible exact ih5 _ _ _ _ _ _ _)
   | (with_reducible exact cantonlaw10_great.mono _ _ _)
   | (with_reducible exact cantonref10_Right.mono _ _)
   | (with_reducible exact LeO.refl _)
   | (with_reducible exact LeO.none _)
   | (with_reducible refine LeO.ite ?_ ?_)
   | (with_reducible refine LeO.bind ?_ (fun _ => ?_))
   | exact ih0 _ _ _ _
   | exact ih1 _ _ _ _ _ _ _
   | exact ih2 _ _ _ _ _ _ _ _
   | exact ih3 _ _ _ _ _
   | exact ih4 _ _ _ _ _
   | exact ih5 _ _ _ _ _ _ _
   | exact cantonlaw10_great.mono _ _ _
   | exact cantonref10_Right.mono _ _
   | exact LeO.none _
   | refine LeO.ite ?_ ?_
   | refine LeO.bind ?_ (fun _ => ?_)
  ·intro y0 y1 y2 y3 y4
   unfold cantonlaw10_LocksFree.j3
   repeat' first
   | (with_reducible exact ih0 _ _ _ _)
   | (with_reducible exact ih1 _ _ _ _ _ _ _)
   | (with_reducible exact ih2 _ _ _ _ _ _ _ _)
   | (with_reducible exact ih3 _ _ _ _ _)
   | (with_reducible exact ih4 _ _ _ _ _)
   | (with_reducible exact ih5 _ _ _ _ _ _ _)
   | (with_reducible exact cantonlaw10_great.mono _ _ _)
   | (with_reducible exact cantonref10_Right.mono _ _)
   | (with_reducible exact LeO.refl _)
   | (with_reducible exact LeO.none _)
   | (with_reducible refine LeO.ite ?_ ?_)
   | (with_reducible refine LeO.bind ?_ (fun _ => ?_))
   | exact ih0 _ _ _ _
   | exact ih1 _ _ _ _ _ _ _
   | exact ih2 _ _ _ _ _ _ _ _
   | exact ih3 _ _ _ _ _
   | exact ih4 _ _ _ _ _
   | exact ih5 _ _ _ _ _ _ _
   | exact cantonlaw10_great.mono _ _ _
   | exact cantonref10_Right.mono _ _
   | exact LeO.none _
   | refine LeO.ite ?_ ?_
   | refine LeO.bind ?_ (fun _ => ?_)
  ·intro y0 y1 y2 y3 y4
   unfold cantonlaw10_LocksFree.l1
   repeat' first
   | (with_reducible exact ih0 _ _ _ _)
   | (with_reducible exact ih1 _ _ _ _ _ _ _)
   | (with_reducible exact ih2 _ _ _ _ _ _ _ _)
   | (with_reducible exact ih3 _ _ _ _ _)
   | (with_reducible exact ih4 _ _ _ _ _)
   | (with_reducible exact ih5 _ _ _ _ _ _ _)
   | (with_reducible exact cantonlaw10_great.mono _ _ _)
   | (with_reducible exact cantonref10_Right.mono _ _)
   | (with_reducible exact LeO.refl _)
   | (with_reducible exact LeO.none _)
   | (with_reducible refine LeO.ite ?_ ?_)
   | (with_reducible refine LeO.bind ?_ (fun _ => ?_))
   | exact ih0 _ _ _ _
   | exact ih1 _ _ _ _ _ _ _
   | exact ih2 _ _ _ _ _ _ _ _
   | exact ih3 _ _ _ _ _
   | exact ih4 _ _ _ _ _
   | exact ih5 _ _ _ _ _ _ _
   | exact cantonlaw10_great.mono _ _ _
   | exact cantonref10_Right.mono _ _
   | exact LeO.none _
   | refine LeO.ite ?_ ?_
   | refine LeO.bind ?_ (fun _ => ?_)
  ·intro y0 y1 y2 y3 y4 y5 y6
   unfold cantonlaw10_LocksFree.l2
   repeat' first
   | (with_reducible exact ih0 _ _ _ _)
   | (with_reducible exact ih1 _ _ _ _ _ _ _)
   | (with_reducible exact ih2 _ _ _ _ _ _ _ _)
   | (with_reducible exact ih3 _ _ _ _ _)
   | (with_reducible exact ih4 _ _ _ _ _)
   | (with_reducible exact ih5 _ _ _ _ _ _ _)
   | (with_reducible exact cantonlaw10_great.mono _ _ _)
   | (with_reducible exact cantonref10_Right.mono _ _)
   | (with_reducible exact LeO.refl _)
   | (with_reducible exact LeO.none _)
   | (with_reducible refine LeO.ite ?_ ?_)
   | (with_reducible refine LeO.bind ?_ (fun _ => ?_))
   | exact ih0 _ _ _ _
   | exact ih1 _ _ _ _ _ _ _
   | exact ih2 _ _ _ _ _ _ _ _
   | exact ih3 _ _ _ _ _
   | exact ih4 _ _ _ _ _
   | exact ih5 _ _ _ _ _ _ _
   | exact cantonlaw10_great.mono _ _ _
   | exact cantonref10_Right.mono _ _
   | exact LeO.none _
   | refine LeO.ite ?_ ?_
   | refine LeO.bind ?_ (fun _ => ?_)
theorem cantonlaw10_LocksFree.mono : ∀ a0 a1 k, LeO (cantonlaw10_LocksFree.f k a0 a1) (cantonlaw10_LocksFree.f (k + 1) a0 a1) := by
 intro a0 a1 k
 obtain ⟨ih0, ih1, ih2, ih3, ih4, ih5⟩ := cantonlaw10_LocksFree.mono_l k
 unfold cantonlaw10_LocksFree.f
 repeat' first
   | (with_reducible exact ih0 _ _ _ _)
   | (with_reducible exact ih1 _ _ _ _ _ _ _)
   | (with_reducible exact ih2 _ _ _ _ _ _ _ _)
   | (with_reducible exact ih3 _ _ _ _ _)
   | (with_reducible exact ih4 _ _ _ _ _)
   | (with_reducible exact ih5 _ _ _ _ _ _ _)
   | (with_reducible exact cantonlaw10_great.mono _ _ _)
   | (with_reducible exact cantonref10_Right.mono _ _)
   | (with_reducible exact LeO.refl _)
   | (with_reducible exact LeO.none _)
   | (with_reducible refine LeO.ite ?_ ?_)
   | (with_reducible refine LeO.bind ?_ (fun _ => ?_))
   | exact ih0 _ _ _ _
   | exact ih1 _ _ _ _ _ _ _
   | exact ih2 _ _ _ _ _ _ _ _
   | exact ih3 _ _ _ _ _
   | exact ih4 _ _ _ _ _
   | exact ih5 _ _ _ _ _ _ _
   | exact cantonlaw10_great.mono _ _ _
   | exact cantonref10_Right.mono _ _
   | exact LeO.none _
   | refine LeO.ite ?_ ?_
   | refine LeO.bind ?_ (fun _ => ?_)
set_option maxHeartbeats 8000000 in
set_option maxRecDepth 100000 in
theorem cantonlaw10_LocksFree.calls (k : Nat) (A0 : Option Addr) (c0 : Nat) (l0 : List (S34)) (a1 : Int) (r : Bool) (w : World) (hr0 : Kd.C k34 w A0 l0.length l0) (hc0 : l0.length ≤ c0) (h : cantonlaw10_LocksFree.f k l0 a1 = some r) :
  Calls Try.prog 5 #[.slice A0 l0.length c0, .int .i64 a1] w fun e w' => e = .returned (.bool r) ∧ Below w.heap.size w w' := by
 have HR0 := Aside0.mk hr0
 have HC0 := Aside0.mk hc0
 clear hr0 hc0
 have HB := Aside0.mk (Below.refl w.heap.size w)
 have H : ((cantonlaw10_head.f).bind fun t251 => ((cantonlaw10_great.f k l0 ([] : List ByteArray)).bind fun t252 => (if t252 = true then (cantonlaw10_LocksFree.j0 k l0 a1 t251 true) else ((cantonref10_Right.f k l0).bind fun t253 => (cantonlaw10_LocksFree.j0 k l0 a1 t251 (!t253)))))) = some r := h
 clear h
 replace H := Option.bind_eq_some_iff.mp H
 obtain ⟨t251, A30, H⟩ := H
 replace H : ((cantonlaw10_great.f k l0 ([] : List ByteArray)).bind fun t252 => (if t252 = true then (cantonlaw10_LocksFree.j0 k l0 a1 t251 true) else ((cantonref10_Right.f k l0).bind fun t253 => (cantonlaw10_LocksFree.j0 k l0 a1 t251 (!t253))))) = some r := H
 have A3 := Aside0.mk A30
 clear A30
 have HC4 := Aside0.mk H
 clear H
 go_enter Try.func5, Try.ntmps5
 go_upto_region 2 with (first | ((with_reducible refine gate_callee (f := 8) rfl ?_); refine gL (some 18) Try.func8 #[] rfl rfl ?_; (with_reducible refine (cantonlaw10_head.calls  t251 _ A3.out).mono ?_); rintro e w5 ⟨rfl, hb⟩; refine ⟨_, rfl, ?_⟩; have n0_ := Aside0.mk (below_step (kZ HB) hb); clear HB; have HB := n0_; clear n0_; (try clear hb); (try clear hb2); (try clear hk); (try clear hi)))
 (try simp only [Act.put, List.setIfInBounds_toArray, List.set_cons_zero, List.set_cons_succ])
 go_cut [25] (fun v25 wc => ∃ (kq : Nat) (x25_3 : Bool), v25 = .bool x25_3 ∧ Aside0 (cantonlaw10_LocksFree.j0 kq l0 a1 t251 x25_3 = some r) ∧ Aside0 (kq ≤ k) ∧ Aside0 (Below w.heap.size w wc))
 case first =>
  have H := HC4.out
  clear HC4
  replace H := Option.bind_eq_some_iff.mp H
  obtain ⟨t252, A60, H⟩ := H
  replace H : (if t252 = true then (cantonlaw10_LocksFree.j0 k l0 a1 t251 true) else ((cantonref10_Right.f k l0).bind fun t253 => (cantonlaw10_LocksFree.j0 k l0 a1 t251 (!t253)))) = some r := H
  have A6 := Aside0.mk A60
  clear A60
  by_cases c7 : t252 = true
  ·subst c7
   have H1 : (cantonlaw10_LocksFree.j0 k l0 a1 t251 true) = some r := by rw [if_pos rfl] at H; exact H
   clear H
   have H := H1
   clear H1
   have H' := Aside0.mk H
   clear H
   go_wp2_with (first | ((with_reducible refine gate_callee (f := 9) rfl ?_); refine gL (some 20) Try.func9 #[.slice A0 l0.length c0, .slice none 0 0] rfl rfl ?_; (refine (cantonlaw10_great.calls k _ _ l0 _ _ ([] : List ByteArray) true _ ?side1 ?side2 ?side3 ?side4 A6.out).mono ?_); (case side1 => exact kC ((Kd.C_below HR0.out HB.out))); (case side2 => exact HC0.out); (case side3 => exact Kd.C_nil _ _); (case side4 => exact Nat.le_refl _); rintro e w8 ⟨rfl, hb⟩; refine ⟨_, rfl, ?_⟩; have n0_ := Aside0.mk (below_step (kZ HB) hb); clear HB; have HB := n0_; clear n0_; (try clear hb); (try clear hb2); (try clear hk); (try clear hi)))
   go_meet
   case rel => exact ⟨_, (true), (by first | rfl | (simp; done) | (simp [*]; done)), H', ⟨by first | omega | exact Nat.le_refl _⟩, ⟨kZ HB⟩⟩
  ·replace c7 := Bool.eq_false_iff.mpr c7
   subst c7
   have H1 : ((cantonref10_Right.f k l0).bind fun t253 => (cantonlaw10_LocksFree.j0 k l0 a1 t251 (!t253))) = some r := by rw [if_neg (show ¬ (false = true) by decide)] at H; exact H
   clear H
   have H := H1
   clear H1
   replace H := Option.bind_eq_some_iff.mp H
   obtain ⟨t253, A90, H⟩ := H
   replace H : (cantonlaw10_LocksFree.j0 k l0 a1 t251 (!t253)) = some r := H
   have A9 := Aside0.mk A90
   clear A90
   have H' := Aside0.mk H
   clear H
   go_wp2_with (first | ((with_reducible refine gate_callee (f := 9) rfl ?_); refine gL (some 20) Try.func9 #[.slice A0 l0.length c0, .slice none 0 0] rfl rfl ?_; (refine (cantonlaw10_great.calls k _ _ l0 _ _ ([] : List ByteArray) false _ ?side1 ?side2 ?side3 ?side4 A6.out).mono ?_); (case side1 => exact kC ((Kd.C_below HR0.out HB.out))); (case side2 => exact HC0.out); (case side3 => exact Kd.C_nil _ _); (case side4 => exact Nat.le_refl _); rintro e w10 ⟨rfl, hb⟩; refine ⟨_, rfl, ?_⟩; have n0_ := Aside0.mk (below_step (kZ HB) hb); clear HB; have HB := n0_; clear n0_; (try clear hb); (try clear hb2); (try clear hk); (try clear hi)) | (go_at_call 10; (with_reducible refine (cantonref10_Right.calls k _ _ l0 t253 _ ?side1 ?side2 A9.out).mono ?_); (case side1 => exact kC ((Kd.C_below HR0.out HB.out))); (case side2 => exact HC0.out); rintro e w11 ⟨rfl, hb⟩; have n0_ := Aside0.mk (below_step (kZ HB) hb); clear HB; have HB := n0_; clear n0_; (try clear hb); (try clear hb2); (try clear hk); (try clear hi)))
   go_meet
   case rel => exact ⟨_, (!t253), (by first | rfl | (simp; done) | (simp [*]; done)), H', ⟨by first | omega | exact Nat.le_refl _⟩, ⟨kZ HB⟩⟩
 case rest =>
  clear HC4
  try clear p2
  try clear c5
  try clear c7
  try clear c8
  try clear c9
  obtain ⟨kq, x25_3, rfl, HA, HJ3, HB⟩ := hcut
  cases kq with
  | zero => exact absurd HA.out (by simp [cantonlaw10_LocksFree.j0])
  | succ kj3 =>
   have H := HA.out
   clear HA
   simp only [cantonlaw10_LocksFree.j0] at H
   by_cases c12 : x25_3 = true
   ·subst c12
    have H1 : (some t251) = some r := by rw [if_pos rfl] at H; exact H
    clear H
    have H := H1
    clear H1
    obtain rfl := Option.some.inj H
    go_wp2
    go_ret
    exact ⟨by first | rfl | (simp [errW_none, errW_some] <;> rfl) | (simp [*, errW_none, errW_some] <;> rfl), kZ HB⟩
   ·replace c12 := Bool.eq_false_iff.mpr c12
    subst c12
    have H1 : ((locks_Free.f l0 a1).bind fun t254 => (cantonlaw10_LocksFree.l0 kj3 l0 a1 t251 t254 0 ([] : List ByteArray) 0)) = some r := by rw [if_neg (show ¬ (false = true) by decide)] at H; exact H
    clear H
    have H := H1
    clear H1
    replace H := Option.bind_eq_some_iff.mp H
    obtain ⟨t254, A130, H⟩ := H
    replace H : (cantonlaw10_LocksFree.l0 kj3 l0 a1 t251 t254 0 ([] : List ByteArray) 0) = some r := H
    have A13 := Aside0.mk A130
    clear A130
    have H' := Aside0.mk H
    clear H
    go_wp2_with (first | ((with_reducible refine gate_callee (f := 14) rfl ?_); refine gL (some 29) Try.func14 #[.slice A0 l0.length c0, .int .i64 a1] rfl rfl ?_; (with_reducible refine (locks_Free.calls _ _ l0 a1 t254 _ ?side1 ?side2 A13.out).mono ?_); (case side1 => exact kC ((Kd.C_below HR0.out HB.out))); (case side2 => exact HC0.out); rintro e w14 ⟨v255, rfl, ho0, hb⟩; refine ⟨_, rfl, ?_⟩; have n0_ := Aside0.mk (Kd.R_lower ho0 (below_size (kZ HB))); have n1_ := Aside0.mk (below_step (kZ HB) hb); clear HB; have HO256 := n0_; have HB := n1_; clear n0_ n1_; (try clear hb); (try clear hb2); (try clear hk); (try clear hi); (try clear ho0)))
    go_loopg [7, 8, 9] kj3 (fun kq v7 v8 v9 w' => ∃ (x7_2 : Int) (x8_2 : List ByteArray) (x9_2 : Int), v7 = .int .i64 x7_2 ∧ v9 = .int .i64 x9_2 ∧ Aside0 (cantonlaw10_LocksFree.l0 kq l0 a1 t251 t254 x7_2 x8_2 x9_2 = some r) ∧ Aside0 (kq ≤ kj3) ∧ Aside0 (Kd.R k34 34 w' w.heap.size (fun _ => True) v255 t254) ∧ Aside0 (Kd.R Kd.string 9 w' w.heap.size (fun _ => True) v8 x8_2) ∧ Aside0 (Below w.heap.size w w'))
    case atStart => exact ⟨(0), (([] : List ByteArray)), (0), (by first | rfl | (simp; done) | (simp [*]; done)), (by first | rfl | (simp; done) | (simp [*]; done)), H', ⟨Nat.le_refl _⟩, ⟨by (with_reducible repeat (first | apply Kd.R_alloc | apply Kd.R_drewN | apply Kd.R_drew)); exact HO256.out⟩, ⟨by first | exact Kd.R_nil _ _ _ _ _ | exact Kd.N_nil _ _ _ _ _ | exact Kd.V_nil _ _ _ _ _ | exact Kd.Q_nil _ _ _ _ _ | exact Kd.S_nil _ _ _ _ _⟩, ⟨kZ HB⟩⟩
    case round =>
     clear H'
     try clear c1
     try clear p2
     try clear c5
     try clear c7
     try clear c8
     try clear c9
     try clear c12
     try clear c14
     try clear p2
     obtain ⟨x7_2, x8_2, x9_2, rfl, rfl, HA, HK2, HO_6, HO_8, HB⟩ := hrel
     cases gk with
     | zero => exact absurd HA.out (by simp [cantonlaw10_LocksFree.l0])
     | succ k2 =>
      have H := HA.out
      clear HA
      simp only [cantonlaw10_LocksFree.l0] at H
      by_cases c15 : x9_2 < (l0.length : Int)
      ·rw [if_pos c15] at H
       have c15b0 : decide (x9_2 < (l0.length : Int)) = true := decide_eq_true c15
       clear c15
       by_cases c16 : 0 ≤ x9_2
       ·rw [if_pos c16] at H
        have c16b0 : decide (0 ≤ x9_2) = true := decide_eq_true c16
        clear c16
        replace H := Option.bind_eq_some_iff.mp H
        obtain ⟨⟨t258, t259⟩, A170, H⟩ := H
        replace H : (if (t259 != (((rd_T34 l0 x9_2).f1) != a1)) = true then (cantonlaw10_LocksFree.j2 k2 l0 a1 t251 t254 x7_2 x8_2 x9_2 true) else (if t259 = true then (cantonlaw10_LocksFree.j2 k2 l0 a1 t251 t254 x7_2 x8_2 x9_2 (t258 != ((rd_T34 l0 x9_2).f1))) else (cantonlaw10_LocksFree.j2 k2 l0 a1 t251 t254 x7_2 x8_2 x9_2 false))) = some r := H
        have A17 := Aside0.mk A170
        clear A170
        have HC18 := Aside0.mk H
        clear H
        have p257 : 0 ≤ (x9_2 : Int) := of_decide_eq_true (by first | (with_reducible assumption) | assumption)
        have q257 : x9_2 < (l0.length : Int) := of_decide_eq_true (by first | (with_reducible assumption) | assumption)
        obtain ⟨ad257, e257, hx257_0, hx257_1, hx257_2⟩ := at_T34 HR0.out x9_2 p257 q257
        cases e257
        replace hx257_0 := (HB.out.cell (World.block_lt_of_cell? w _ hx257_0)).trans hx257_0
        replace hx257_1 := (HB.out.cell (World.block_lt_of_cell? w _ hx257_1)).trans hx257_1
        replace hx257_2 := (HB.out.cell (World.block_lt_of_cell? w _ hx257_2)).trans hx257_2
        replace p257 := eq_true p257
        replace q257 := eq_true q257
        obtain ⟨Ao19, co19, eo19⟩ := Kd.R_slice HO_6.out
        subst eo19
        go_upto_region 11 with (first | ((with_reducible refine gate_callee (f := 13) rfl ?_); refine gL (some 43) Try.func13 #[.slice Ao19 t254.length co19, .string ((rd_T34 l0 x9_2).f0)] rfl rfl ?_; (with_reducible refine (locks_Held.calls _ _ t254 ((rd_T34 l0 x9_2).f0) t258 t259 _ ?side1 ?side2 A17.out).mono ?_); (case side1 => exact kC ((Kd.R_reads' HO_6.out).2.2)); (case side2 => exact (Kd.R_reads' HO_6.out).2.1); rintro e w20 ⟨rfl, hb⟩; refine ⟨_, rfl, ?_⟩; have n0_ := Aside0.mk (Kd.R_below (kR HO_6) hb); have n1_ := Aside0.mk (Kd.R_below (kR HO_8) hb); have n2_ := Aside0.mk (below_step (kZ HB) hb); clear HO_6; clear HO_8; clear HB; have HO_6 := n0_; have HO_8 := n1_; have HB := n2_; clear n0_ n1_ n2_; (try clear hb); (try clear hb2); (try clear hk); (try clear hi)))
        (try simp only [Act.put, List.setIfInBounds_toArray, List.set_cons_zero, List.set_cons_succ])
        go_cut [66] (fun v66 wc => ∃ (kq : Nat) (x66_17 : Bool), v66 = .bool x66_17 ∧ Aside0 (cantonlaw10_LocksFree.j2 kq l0 a1 t251 t254 x7_2 x8_2 x9_2 x66_17 = some r) ∧ Aside0 (kq ≤ k2) ∧ Aside0 (Kd.R k34 34 wc w.heap.size (fun _ => True) (.slice Ao19 t254.length co19) t254) ∧ Aside0 (Kd.R Kd.string 9 wc w.heap.size (fun _ => True) u8 x8_2) ∧ Aside0 (Below w.heap.size w wc))
        case first =>
         have H := HC18.out
         clear HC18
         by_cases c21 : (t259 != (((rd_T34 l0 x9_2).f1) != a1)) = true
         ·rw [if_pos c21] at H
          have c21b0 : (t259 != (((rd_T34 l0 x9_2).f1) != a1)) = true := c21
          (try (have c21b1 : decide (t259 = (((rd_T34 l0 x9_2).f1) != a1)) = false := by simpa using c21))
          (try (have c21b2 : (t259 == (((rd_T34 l0 x9_2).f1) != a1)) = false := by simpa using c21))
          (try (have c21b3 : ¬ (t259 = (((rd_T34 l0 x9_2).f1) != a1)) := by simpa using c21))
          clear c21
          (first | rw [c21b0] | (simp only [i64_w, i32_w]; rw [c21b0]) | skip)
          have H' := Aside0.mk H
          clear H
          have p260 : 0 ≤ (x9_2 : Int) := of_decide_eq_true (by first | (with_reducible assumption) | assumption)
          have q260 : x9_2 < (l0.length : Int) := of_decide_eq_true (by first | (with_reducible assumption) | assumption)
          obtain ⟨ad260, e260, hx260_0, hx260_1, hx260_2⟩ := at_T34 HR0.out x9_2 p260 q260
          obtain rfl : ad257 = ad260 := (by injection e260)
          replace hx260_0 := (HB.out.cell (World.block_lt_of_cell? w _ hx260_0)).trans hx260_0
          replace hx260_1 := (HB.out.cell (World.block_lt_of_cell? w _ hx260_1)).trans hx260_1
          replace hx260_2 := (HB.out.cell (World.block_lt_of_cell? w _ hx260_2)).trans hx260_2
          replace p260 := eq_true p260
          replace q260 := eq_true q260
          go_wp2
          go_meet
          case rel => exact ⟨_, (true), (by first | rfl | (simp; done) | (simp [*]; done)), H', ⟨by have := HJ3.out; have := HK2.out; first | omega | exact Nat.le_refl _⟩, ⟨by (with_reducible repeat (first | apply Kd.R_alloc | apply Kd.R_drewN | apply Kd.R_drew)); exact HO_6.out⟩, ⟨by (with_reducible repeat (first | apply Kd.R_alloc | apply Kd.R_drewN | apply Kd.R_drew)); exact HO_8.out⟩, ⟨kZ HB⟩⟩
         ·rw [if_neg c21] at H
          have c21b0 : (t259 != (((rd_T34 l0 x9_2).f1) != a1)) = false := by simpa using c21
          (try (have c21b1 : decide (t259 = (((rd_T34 l0 x9_2).f1) != a1)) = true := by simpa using c21))
          (try (have c21b2 : (t259 == (((rd_T34 l0 x9_2).f1) != a1)) = true := by simpa using c21))
          clear c21
          (first | rw [c21b0] | (simp only [i64_w, i32_w]; rw [c21b0]) | skip)
          by_cases c22 : t259 = true
          ·subst c22
           have H1 : (cantonlaw10_LocksFree.j2 k2 l0 a1 t251 t254 x7_2 x8_2 x9_2 (t258 != ((rd_T34 l0 x9_2).f1))) = some r := by rw [if_pos rfl] at H; exact H
           clear H
           have H := H1
           clear H1
           have H' := Aside0.mk H
           clear H
           have p260 : 0 ≤ (x9_2 : Int) := of_decide_eq_true (by first | (with_reducible assumption) | assumption)
           have q260 : x9_2 < (l0.length : Int) := of_decide_eq_true (by first | (with_reducible assumption) | assumption)
           obtain ⟨ad260, e260, hx260_0, hx260_1, hx260_2⟩ := at_T34 HR0.out x9_2 p260 q260
           obtain rfl : ad257 = ad260 := (by injection e260)
           replace hx260_0 := (HB.out.cell (World.block_lt_of_cell? w _ hx260_0)).trans hx260_0
           replace hx260_1 := (HB.out.cell (World.block_lt_of_cell? w _ hx260_1)).trans hx260_1
           replace hx260_2 := (HB.out.cell (World.block_lt_of_cell? w _ hx260_2)).trans hx260_2
           replace p260 := eq_true p260
           replace q260 := eq_true q260
           have p261 : 0 ≤ (x9_2 : Int) := of_decide_eq_true (by first | (with_reducible assumption) | assumption)
           have q261 : x9_2 < (l0.length : Int) := of_decide_eq_true (by first | (with_reducible assumption) | assumption)
           obtain ⟨ad261, e261, hx261_0, hx261_1, hx261_2⟩ := at_T34 HR0.out x9_2 p261 q261
           obtain rfl : ad257 = ad261 := (by injection e261)
           replace hx261_0 := (HB.out.cell (World.block_lt_of_cell? w _ hx261_0)).trans hx261_0
           replace hx261_1 := (HB.out.cell (World.block_lt_of_cell? w _ hx261_1)).trans hx261_1
           replace hx261_2 := (HB.out.cell (World.block_lt_of_cell? w _ hx261_2)).trans hx261_2
           replace p261 := eq_true p261
           replace q261 := eq_true q261
           go_wp2
           go_meet
           case rel => exact ⟨_, ((t258 != ((rd_T34 l0 x9_2).f1))), (by first | rfl | (simp; done) | (simp [*]; done)), H', ⟨by have := HJ3.out; have := HK2.out; first | omega | exact Nat.le_refl _⟩, ⟨by (with_reducible repeat (first | apply Kd.R_alloc | apply Kd.R_drewN | apply Kd.R_drew)); exact HO_6.out⟩, ⟨by (with_reducible repeat (first | apply Kd.R_alloc | apply Kd.R_drewN | apply Kd.R_drew)); exact HO_8.out⟩, ⟨kZ HB⟩⟩
          ·replace c22 := Bool.eq_false_iff.mpr c22
           subst c22
           have H1 : (cantonlaw10_LocksFree.j2 k2 l0 a1 t251 t254 x7_2 x8_2 x9_2 false) = some r := by rw [if_neg (show ¬ (false = true) by decide)] at H; exact H
           clear H
           have H := H1
           clear H1
           have H' := Aside0.mk H
           clear H
           have p260 : 0 ≤ (x9_2 : Int) := of_decide_eq_true (by first | (with_reducible assumption) | assumption)
           have q260 : x9_2 < (l0.length : Int) := of_decide_eq_true (by first | (with_reducible assumption) | assumption)
           obtain ⟨ad260, e260, hx260_0, hx260_1, hx260_2⟩ := at_T34 HR0.out x9_2 p260 q260
           obtain rfl : ad257 = ad260 := (by injection e260)
           replace hx260_0 := (HB.out.cell (World.block_lt_of_cell? w _ hx260_0)).trans hx260_0
           replace hx260_1 := (HB.out.cell (World.block_lt_of_cell? w _ hx260_1)).trans hx260_1
           replace hx260_2 := (HB.out.cell (World.block_lt_of_cell? w _ hx260_2)).trans hx260_2
           replace p260 := eq_true p260
           replace q260 := eq_true q260
           go_wp2
           go_meet
           case rel => exact ⟨_, (false), (by first | rfl | (simp; done) | (simp [*]; done)), H', ⟨by have := HJ3.out; have := HK2.out; first | omega | exact Nat.le_refl _⟩, ⟨by (with_reducible repeat (first | apply Kd.R_alloc | apply Kd.R_drewN | apply Kd.R_drew)); exact HO_6.out⟩, ⟨by (with_reducible repeat (first | apply Kd.R_alloc | apply Kd.R_drewN | apply Kd.R_drew)); exact HO_8.out⟩, ⟨kZ HB⟩⟩
        case rest =>
         clear HC18
         try clear c1
         try clear c2
         try clear p2
         try clear q2
         try clear hx2
         try clear c5
         try clear c7
         try clear c8
         try clear c9
         try clear c12
         try clear c13
         try clear c14
         try clear c15
         try clear c15b0
         try clear c16
         try clear c16b0
         try clear c21
         try clear c21b0
         try clear c21b1
         try clear c21b2
         try clear c22
         try clear hx257_0
         try clear hx257_1
         try clear hx257_2
         try clear hx260_0
         try clear hx260_1
         try clear hx260_2
         try clear hx261_0
         try clear hx261_1
         try clear hx261_2
         try clear p2
         try clear p257
         try clear p260
         try clear p261
         try clear q257
         try clear q260
         try clear q261
         obtain ⟨kq, x66_17, rfl, HA, HJ17, HO_6, HO_8, HB⟩ := hcut
         cases kq with
         | zero => exact absurd HA.out (by simp [cantonlaw10_LocksFree.j2])
         | succ kj17 =>
          have H := HA.out
          clear HA
          simp only [cantonlaw10_LocksFree.j2] at H
          by_cases c23 : x66_17 = true
          ·subst c23
           have H1 : (some false) = some r := by rw [if_pos rfl] at H; exact H
           clear H
           have H := H1
           clear H1
           obtain rfl := Option.some.inj H
           go_wp2
           go_ret
           exact ⟨by first | rfl | (simp [errW_none, errW_some] <;> rfl) | (simp [*, errW_none, errW_some] <;> rfl), kZ HB⟩
          ·replace c23 := Bool.eq_false_iff.mpr c23
           subst c23
           have H1 : (if 0 ≤ x9_2 then (if x9_2 < (l0.length : Int) then (if ((rd_T34 l0 x9_2).f1) = a1 then (if x8_2.length < 8796093022208 then (cantonlaw10_LocksFree.l0 kj17 l0 a1 t251 t254 (wrap64 (x7_2 + 1)) (x8_2 ++ [(rd_T34 l0 x9_2).f0]) (wrap64 (x9_2 + 1))) else (none)) else (cantonlaw10_LocksFree.l0 kj17 l0 a1 t251 t254 x7_2 x8_2 (wrap64 (x9_2 + 1)))) else (none)) else (none)) = some r := by rw [if_neg (show ¬ (false = true) by decide)] at H; exact H
           clear H
           have H := H1
           clear H1
           by_cases c24 : 0 ≤ x9_2
           ·rw [if_pos c24] at H
            have c24b0 : decide (0 ≤ x9_2) = true := decide_eq_true c24
            clear c24
            by_cases c25 : x9_2 < (l0.length : Int)
            ·rw [if_pos c25] at H
             have c25b0 : decide (x9_2 < (l0.length : Int)) = true := decide_eq_true c25
             clear c25
             by_cases c26 : ((rd_T34 l0 x9_2).f1) = a1
             ·rw [if_pos c26] at H
              have c26b0 : (((rd_T34 l0 x9_2).f1) == a1) = true := beq_iff_eq.mpr c26
              have c26b1 : (((rd_T34 l0 x9_2).f1) != a1) = false := bne_eq_false_iff_eq.mpr c26
              clear c26
              by_cases c27 : x8_2.length < 8796093022208
              ·rw [if_pos c27] at H
               have LMc27 := Aside0.mk c27
               clear c27
               obtain ⟨y264, hy264⟩ : ∃ y_ : List ByteArray, y_ = (x8_2 ++ [(rd_T34 l0 x9_2).f0]) := ⟨_, rfl⟩
               replace H : (cantonlaw10_LocksFree.l0 kj17 l0 a1 t251 t254 (wrap64 (x7_2 + 1)) y264 (wrap64 (x9_2 + 1))) = some r := by first | (rw [hy264]; with_reducible exact H) | (have H2_ := (Option.bind_some _ _).symm.trans H; rw [hy264]; with_reducible exact H2_) | (have H2_ := (Option.bind_some _ _).symm.trans H; with_reducible exact H2_) | with_reducible exact H | (rw [hy264]; exact H) | exact H
               have Ny264 := Aside0.mk hy264
               clear hy264
               have H' := Aside0.mk H
               clear H
               have p262 : 0 ≤ (x9_2 : Int) := of_decide_eq_true (by first | (with_reducible assumption) | assumption)
               have q262 : x9_2 < (l0.length : Int) := of_decide_eq_true (by first | (with_reducible assumption) | assumption)
               obtain ⟨ad262, e262, hx262_0, hx262_1, hx262_2⟩ := at_T34 HR0.out x9_2 p262 q262
               obtain rfl : ad257 = ad262 := (by injection e262)
               replace hx262_0 := (HB.out.cell (World.block_lt_of_cell? w _ hx262_0)).trans hx262_0
               replace hx262_1 := (HB.out.cell (World.block_lt_of_cell? w _ hx262_1)).trans hx262_1
               replace hx262_2 := (HB.out.cell (World.block_lt_of_cell? w _ hx262_2)).trans hx262_2
               replace p262 := eq_true p262
               replace q262 := eq_true q262
               have p263 : 0 ≤ (x9_2 : Int) := of_decide_eq_true (by first | (with_reducible assumption) | assumption)
               have q263 : x9_2 < (l0.length : Int) := of_decide_eq_true (by first | (with_reducible assumption) | assumption)
               obtain ⟨ad263, e263, hx263_0, hx263_1, hx263_2⟩ := at_T34 HR0.out x9_2 p263 q263
               obtain rfl : ad257 = ad263 := (by injection e263)
               replace hx263_0 := (HB.out.cell (World.block_lt_of_cell? w _ hx263_0)).trans hx263_0
               replace hx263_1 := (HB.out.cell (World.block_lt_of_cell? w _ hx263_1)).trans hx263_1
               replace hx263_2 := (HB.out.cell (World.block_lt_of_cell? w _ hx263_2)).trans hx263_2
               replace p263 := eq_true p263
               replace q263 := eq_true q263
               go_wp2_with (first | ((with_reducible refine gate_builtin (b := .append) (xs := #[.tmp 74, .tmp 80]) rfl ?_); (try (refine gate_guard (by rfl) ?_; dsimp only)); at_builtin; refine Kd.R_append Kd.string (w0 := w) w.heap.size rfl (.tmp 74) (.tmp 80) 23 9 (.string ⟨#[]⟩) 16 rfl Try.underlying23 info9 rfl (by decide) (by omega) u8 x8_2 ((rd_T34 l0 x9_2).f0) [.string ((rd_T34 l0 x9_2).f0)] (fun _ => True) (fun _ => False) rfl rfl ?aP (fun _ hk => hk.elim) ?aF ?aO ?aB ?aS ?aL ?_; (case aP => exact rfl); (case aB => exact (kZ HB)); (case aF => exact (fun _ _ => trivial)); (case aO => exact (kR HO_8)); (case aS => exact (below_size (kZ HB))); (case aL => have := LMc27.out; omega); intro v265 w28 ho hb hg hat; rw [← Ny264.out] at ho; have n0_ := Aside0.mk (Kd.R_over' (kR HO_6) (Kd.R_typed (kR HO_8)) (by decide) hg); have n1_ := Aside0.mk (hb); have n2_ := Aside0.mk (ho); clear HO_6; clear HB; clear HO_8; have HO_6 := n0_; have HB := n1_; have HO266 := n2_; clear n0_ n1_ n2_; clear ho hb hg hat))
               go_roundg kj17
               case measure => have := HJ3.out; have := HK2.out; have := HJ17.out; omega
               case rel => exact ⟨(wrap64 (x7_2 + 1)), (y264), (wrap64 (x9_2 + 1)), (by first | rfl | (simp; done) | (simp [*]; done)), (by first | rfl | (simp; done) | (simp [*]; done)), H', ⟨by have := HJ3.out; have := HK2.out; have := HJ17.out; omega⟩, ⟨by (with_reducible repeat (first | apply Kd.R_alloc | apply Kd.R_drewN | apply Kd.R_drew)); exact HO_6.out⟩, ⟨by (with_reducible repeat (first | apply Kd.R_alloc | apply Kd.R_drewN | apply Kd.R_drew)); exact HO266.out⟩, ⟨kZ HB⟩⟩
              ·rw [if_neg c27] at H
               exact absurd H (by simp)
             ·rw [if_neg c26] at H
              have c26b0 : (((rd_T34 l0 x9_2).f1) == a1) = false := beq_eq_false_iff_ne.mpr c26
              have c26b1 : (((rd_T34 l0 x9_2).f1) != a1) = true := bne_iff_ne.mpr c26
              have H' := Aside0.mk H
              clear H
              have p262 : 0 ≤ (x9_2 : Int) := of_decide_eq_true (by first | (with_reducible assumption) | assumption)
              have q262 : x9_2 < (l0.length : Int) := of_decide_eq_true (by first | (with_reducible assumption) | assumption)
              obtain ⟨ad262, e262, hx262_0, hx262_1, hx262_2⟩ := at_T34 HR0.out x9_2 p262 q262
              obtain rfl : ad257 = ad262 := (by injection e262)
              replace hx262_0 := (HB.out.cell (World.block_lt_of_cell? w _ hx262_0)).trans hx262_0
              replace hx262_1 := (HB.out.cell (World.block_lt_of_cell? w _ hx262_1)).trans hx262_1
              replace hx262_2 := (HB.out.cell (World.block_lt_of_cell? w _ hx262_2)).trans hx262_2
              replace p262 := eq_true p262
              replace q262 := eq_true q262
              go_wp2
              go_roundg kj17
              case measure => have := HJ3.out; have := HK2.out; have := HJ17.out; omega
              case rel => exact ⟨(x7_2), (x8_2), (wrap64 (x9_2 + 1)), (by first | rfl | (simp; done) | (simp [*]; done)), (by first | rfl | (simp; done) | (simp [*]; done)), H', ⟨by have := HJ3.out; have := HK2.out; have := HJ17.out; omega⟩, ⟨by (with_reducible repeat (first | apply Kd.R_alloc | apply Kd.R_drewN | apply Kd.R_drew)); exact HO_6.out⟩, ⟨by (with_reducible repeat (first | apply Kd.R_alloc | apply Kd.R_drewN | apply Kd.R_drew)); exact HO_8.out⟩, ⟨kZ HB⟩⟩
            ·rw [if_neg c25] at H
             exact absurd H (by simp)
           ·rw [if_neg c24] at H
            exact absurd H (by simp)
       ·rw [if_neg c16] at H
        exact absurd H (by simp)
      ·rw [if_neg c15] at H
       have c15b0 : decide (x9_2 < (l0.length : Int)) = false := decide_eq_false c15
       clear c15
       have HC29 := Aside0.mk H
       clear H
       go_upto_region 16 with (fail)
       go_cut [95] (fun v95 wc => ∃ (kq : Nat) (x95_28 : Bool), v95 = .bool x95_28 ∧ Aside0 (cantonlaw10_LocksFree.j3 kq l0 t251 t254 x8_2 x95_28 = some r) ∧ Aside0 (kq ≤ k2) ∧ Aside0 (Kd.R k34 34 wc w.heap.size (fun _ => True) v255 t254) ∧ Aside0 (Kd.R Kd.string 9 wc w.heap.size (fun _ => True) u8 x8_2) ∧ Aside0 (Below w.heap.size w wc))
       case first =>
        have H := HC29.out
        clear HC29
        by_cases c30 : (t254.length : Int) = (wrap64 ((l0.length : Int) - x7_2))
        ·rw [if_pos c30] at H
         have c30b0 : ((t254.length : Int) == (wrap64 ((l0.length : Int) - x7_2))) = true := beq_iff_eq.mpr c30
         have c30b1 : ((t254.length : Int) != (wrap64 ((l0.length : Int) - x7_2))) = false := bne_eq_false_iff_eq.mpr c30
         clear c30
         (first | rw [c30b0] | (simp only [i64_w, i32_w]; rw [c30b0]) | skip)
         replace H := Option.bind_eq_some_iff.mp H
         obtain ⟨t267, A310, H⟩ := H
         replace H : (cantonlaw10_LocksFree.j3 k2 l0 t251 t254 x8_2 (!t267)) = some r := H
         have A31 := Aside0.mk A310
         clear A310
         have H' := Aside0.mk H
         clear H
         obtain ⟨Ao32, co32, eo32⟩ := Kd.R_slice HO_6.out
         subst eo32
         go_wp2_with (first | (go_at_call 10; (with_reducible refine (cantonref10_Right.calls k2 _ _ t254 t267 _ ?side1 ?side2 A31.out).mono ?_); (case side1 => exact kC ((Kd.R_reads' HO_6.out).2.2)); (case side2 => exact (Kd.R_reads' HO_6.out).2.1); rintro e w33 ⟨rfl, hb⟩; have n0_ := Aside0.mk (Kd.R_below (kR HO_6) hb); have n1_ := Aside0.mk (Kd.R_below (kR HO_8) hb); have n2_ := Aside0.mk (below_step (kZ HB) hb); clear HO_6; clear HO_8; clear HB; have HO_6 := n0_; have HO_8 := n1_; have HB := n2_; clear n0_ n1_ n2_; (try clear hb); (try clear hb2); (try clear hk); (try clear hi)))
         go_meet
         case rel => exact ⟨_, (!t267), (by first | rfl | (simp; done) | (simp [*]; done)), H', ⟨by have := HJ3.out; have := HK2.out; first | omega | exact Nat.le_refl _⟩, ⟨by (with_reducible repeat (first | apply Kd.R_alloc | apply Kd.R_drewN | apply Kd.R_drew)); exact HO_6.out⟩, ⟨by (with_reducible repeat (first | apply Kd.R_alloc | apply Kd.R_drewN | apply Kd.R_drew)); exact HO_8.out⟩, ⟨kZ HB⟩⟩
        ·rw [if_neg c30] at H
         have c30b0 : ((t254.length : Int) == (wrap64 ((l0.length : Int) - x7_2))) = false := beq_eq_false_iff_ne.mpr c30
         have c30b1 : ((t254.length : Int) != (wrap64 ((l0.length : Int) - x7_2))) = true := bne_iff_ne.mpr c30
         (first | rw [c30b0] | (simp only [i64_w, i32_w]; rw [c30b0]) | skip)
         have H' := Aside0.mk H
         clear H
         obtain ⟨Ao34, co34, eo34⟩ := Kd.R_slice HO_6.out
         subst eo34
         go_wp2
         go_meet
         case rel => exact ⟨_, (true), (by first | rfl | (simp; done) | (simp [*]; done)), H', ⟨by have := HJ3.out; have := HK2.out; first | omega | exact Nat.le_refl _⟩, ⟨by (with_reducible repeat (first | apply Kd.R_alloc | apply Kd.R_drewN | apply Kd.R_drew)); exact HO_6.out⟩, ⟨by (with_reducible repeat (first | apply Kd.R_alloc | apply Kd.R_drewN | apply Kd.R_drew)); exact HO_8.out⟩, ⟨kZ HB⟩⟩
       case rest =>
        clear HC29
        try clear c1
        try clear c2
        try clear p2
        try clear q2
        try clear hx2
        try clear c3
        try clear c5
        try clear p6
        try clear c7
        try clear c8
        try clear c9
        try clear c12
        try clear c13
        try clear c14
        try clear c15
        try clear c15b0
        try clear c16
        try clear c16b0
        try clear c21
        try clear c21b0
        try clear c21b1
        try clear c21b2
        try clear c22
        try clear c23
        try clear c24
        try clear c24b0
        try clear c25
        try clear c25b0
        try clear p25
        try clear q25
        try clear hx25
        try clear c26
        try clear c26b0
        try clear c26b1
        try clear p26
        try clear q26
        try clear hx26
        try clear c27
        try clear c30
        try clear c30b0
        try clear c30b1
        try clear hx257_0
        try clear hx257_1
        try clear hx257_2
        try clear hx260_0
        try clear hx260_1
        try clear hx260_2
        try clear hx261_0
        try clear hx261_1
        try clear hx261_2
        try clear hx262_0
        try clear hx262_1
        try clear hx262_2
        try clear hx263_0
        try clear hx263_1
        try clear hx263_2
        try clear p2
        try clear p257
        try clear p260
        try clear p261
        try clear p262
        try clear p263
        try clear q2
        try clear q257
        try clear q260
        try clear q261
        try clear q262
        try clear q263
        obtain ⟨kq, x95_28, rfl, HA, HJ28, HO_6, HO_8, HB⟩ := hcut
        cases kq with
        | zero => exact absurd HA.out (by simp [cantonlaw10_LocksFree.j3])
        | succ kj28 =>
         have H := HA.out
         clear HA
         simp only [cantonlaw10_LocksFree.j3] at H
         by_cases c35 : x95_28 = true
         ·subst c35
          have H1 : (some false) = some r := by rw [if_pos rfl] at H; exact H
          clear H
          have H := H1
          clear H1
          obtain rfl := Option.some.inj H
          go_wp2
          go_ret
          exact ⟨by first | rfl | (simp [errW_none, errW_some] <;> rfl) | (simp [*, errW_none, errW_some] <;> rfl), kZ HB⟩
         ·replace c35 := Bool.eq_false_iff.mpr c35
          subst c35
          have H1 : (cantonlaw10_LocksFree.l1 kj28 l0 t251 t254 x8_2 0) = some r := by rw [if_neg (show ¬ (false = true) by decide)] at H; exact H
          clear H
          have H := H1
          clear H1
          have H' := Aside0.mk H
          clear H
          go_wp2
          go_loopg [12] kj28 (fun kq v12 w' => ∃ (x12_4 : Int), v12 = .int .i64 x12_4 ∧ Aside0 (cantonlaw10_LocksFree.l1 kq l0 t251 t254 x8_2 x12_4 = some r) ∧ Aside0 (kq ≤ kj28) ∧ Aside0 (Kd.R k34 34 w' w.heap.size (fun _ => True) v255 t254) ∧ Aside0 (Kd.R Kd.string 9 w' w.heap.size (fun _ => True) u8 x8_2) ∧ Aside0 (Below w.heap.size w w'))
          case atStart => exact ⟨(0), (by first | rfl | (simp; done) | (simp [*]; done)), H', ⟨Nat.le_refl _⟩, ⟨by (with_reducible repeat (first | apply Kd.R_alloc | apply Kd.R_drewN | apply Kd.R_drew)); exact HO_6.out⟩, ⟨by (with_reducible repeat (first | apply Kd.R_alloc | apply Kd.R_drewN | apply Kd.R_drew)); exact HO_8.out⟩, ⟨kZ HB⟩⟩
          case round =>
           clear H'
           try clear c1
           try clear c2
           try clear p2
           try clear q2
           try clear hx2
           try clear c3
           try clear c5
           try clear p6
           try clear c7
           try clear c8
           try clear c9
           try clear c12
           try clear c13
           try clear c14
           try clear c15
           try clear c15b0
           try clear c16
           try clear c16b0
           try clear c21
           try clear c21b0
           try clear c21b1
           try clear c21b2
           try clear c22
           try clear c23
           try clear c24
           try clear c24b0
           try clear c25
           try clear c25b0
           try clear p25
           try clear q25
           try clear hx25
           try clear c26
           try clear c26b0
           try clear c26b1
           try clear p26
           try clear q26
           try clear hx26
           try clear c27
           try clear c30
           try clear c30b0
           try clear c30b1
           try clear c35
           try clear hx257_0
           try clear hx257_1
           try clear hx257_2
           try clear hx260_0
           try clear hx260_1
           try clear hx260_2
           try clear hx261_0
           try clear hx261_1
           try clear hx261_2
           try clear hx262_0
           try clear hx262_1
           try clear hx262_2
           try clear hx263_0
           try clear hx263_1
           try clear hx263_2
           try clear p2
           try clear p25
           try clear p257
           try clear p26
           try clear p260
           try clear p261
           try clear p262
           try clear p263
           try clear p6
           try clear q2
           try clear q25
           try clear q257
           try clear q26
           try clear q260
           try clear q261
           try clear q262
           try clear q263
           obtain ⟨x12_4, rfl, HA, HK4, HO_6, HO_8, HB⟩ := hrel
           cases gk with
           | zero => exact absurd HA.out (by simp [cantonlaw10_LocksFree.l1])
           | succ k4 =>
            have H := HA.out
            clear HA
            simp only [cantonlaw10_LocksFree.l1] at H
            by_cases c36 : x12_4 ≤ 200
            ·rw [if_pos c36] at H
             have c36b0 : decide (x12_4 ≤ 200) = true := decide_eq_true c36
             clear c36
             have H' := Aside0.mk H
             clear H
             go_wp2
             go_loopg [13, 14] k4 (fun kq v13 v14 w' => ∃ (x13_5 : Bool) (x14_5 : Int), v13 = .bool x13_5 ∧ v14 = .int .i64 x14_5 ∧ Aside0 (cantonlaw10_LocksFree.l2 kq l0 t251 t254 x8_2 x12_4 x13_5 x14_5 = some r) ∧ Aside0 (kq ≤ k4) ∧ Aside0 (Kd.R k34 34 w' w.heap.size (fun _ => True) v255 t254) ∧ Aside0 (Kd.R Kd.string 9 w' w.heap.size (fun _ => True) u8 x8_2) ∧ Aside0 (Below w.heap.size w w'))
             case atStart => exact ⟨(false), (0), (by first | rfl | (simp; done) | (simp [*]; done)), (by first | rfl | (simp; done) | (simp [*]; done)), H', ⟨Nat.le_refl _⟩, ⟨by (with_reducible repeat (first | apply Kd.R_alloc | apply Kd.R_drewN | apply Kd.R_drew)); exact HO_6.out⟩, ⟨by (with_reducible repeat (first | apply Kd.R_alloc | apply Kd.R_drewN | apply Kd.R_drew)); exact HO_8.out⟩, ⟨kZ HB⟩⟩
             case round =>
              clear H'
              try clear c1
              try clear c2
              try clear p2
              try clear q2
              try clear hx2
              try clear c3
              try clear c5
              try clear p6
              try clear c7
              try clear c8
              try clear c9
              try clear c12
              try clear c13
              try clear c14
              try clear c15
              try clear c15b0
              try clear c16
              try clear c16b0
              try clear c21
              try clear c21b0
              try clear c21b1
              try clear c21b2
              try clear c22
              try clear c23
              try clear c24
              try clear c24b0
              try clear c25
              try clear c25b0
              try clear p25
              try clear q25
              try clear hx25
              try clear c26
              try clear c26b0
              try clear c26b1
              try clear p26
              try clear q26
              try clear hx26
              try clear c27
              try clear c30
              try clear c30b0
              try clear c30b1
              try clear c35
              try clear c36
              try clear c36b0
              try clear hx257_0
              try clear hx257_1
              try clear hx257_2
              try clear hx260_0
              try clear hx260_1
              try clear hx260_2
              try clear hx261_0
              try clear hx261_1
              try clear hx261_2
              try clear hx262_0
              try clear hx262_1
              try clear hx262_2
              try clear hx263_0
              try clear hx263_1
              try clear hx263_2
              try clear p2
              try clear p25
              try clear p257
              try clear p26
              try clear p260
              try clear p261
              try clear p262
              try clear p263
              try clear p6
              try clear q2
              try clear q25
              try clear q257
              try clear q26
              try clear q260
              try clear q261
              try clear q262
              try clear q263
              obtain ⟨x13_5, x14_5, rfl, rfl, HA, HK5, HO_6, HO_8, HB⟩ := hrel
              cases gk with
              | zero => exact absurd HA.out (by simp [cantonlaw10_LocksFree.l2])
              | succ k5 =>
               have H := HA.out
               clear HA
               simp only [cantonlaw10_LocksFree.l2] at H
               by_cases c37 : x14_5 < (t254.length : Int)
               ·rw [if_pos c37] at H
                have c37b0 : decide (x14_5 < (t254.length : Int)) = true := decide_eq_true c37
                clear c37
                by_cases c38 : x13_5 = true
                ·subst c38
                 have H1 : (cantonlaw10_LocksFree.l2 k5 l0 t251 t254 x8_2 x12_4 true (wrap64 (x14_5 + 1))) = some r := by rw [if_pos rfl] at H; exact H
                 clear H
                 have H := H1
                 clear H1
                 have H' := Aside0.mk H
                 clear H
                 obtain ⟨Ao39, co39, eo39⟩ := Kd.R_slice HO_6.out
                 subst eo39
                 go_wp2
                 go_roundg k5
                 case measure => have := HJ3.out; have := HK2.out; have := HJ28.out; have := HK4.out; have := HK5.out; omega
                 case rel => exact ⟨(true), (wrap64 (x14_5 + 1)), (by first | rfl | (simp; done) | (simp [*]; done)), (by first | rfl | (simp; done) | (simp [*]; done)), H', ⟨by have := HJ3.out; have := HK2.out; have := HJ28.out; have := HK4.out; have := HK5.out; omega⟩, ⟨by (with_reducible repeat (first | apply Kd.R_alloc | apply Kd.R_drewN | apply Kd.R_drew)); exact HO_6.out⟩, ⟨by (with_reducible repeat (first | apply Kd.R_alloc | apply Kd.R_drewN | apply Kd.R_drew)); exact HO_8.out⟩, ⟨kZ HB⟩⟩
                ·replace c38 := Bool.eq_false_iff.mpr c38
                 subst c38
                 have H1 : (if 0 ≤ x14_5 then (cantonlaw10_LocksFree.l2 k5 l0 t251 t254 x8_2 x12_4 (((rd_T34 t254 x14_5).f1) == x12_4) (wrap64 (x14_5 + 1))) else (none)) = some r := by rw [if_neg (show ¬ (false = true) by decide)] at H; exact H
                 clear H
                 have H := H1
                 clear H1
                 by_cases c40 : 0 ≤ x14_5
                 ·rw [if_pos c40] at H
                  have c40b0 : decide (0 ≤ x14_5) = true := decide_eq_true c40
                  clear c40
                  have H' := Aside0.mk H
                  clear H
                  obtain ⟨Ao41, co41, eo41⟩ := Kd.R_slice HO_6.out
                  subst eo41
                  have p268 : 0 ≤ (x14_5 : Int) := of_decide_eq_true (by first | (with_reducible assumption) | assumption)
                  have q268 : x14_5 < (t254.length : Int) := of_decide_eq_true (by first | (with_reducible assumption) | assumption)
                  obtain ⟨ad268, e268, hx268_0, hx268_1, hx268_2⟩ := at_T34 (Kd.R_reads' HO_6.out).2.2 x14_5 p268 q268
                  cases e268
                  replace p268 := eq_true p268
                  replace q268 := eq_true q268
                  go_wp2
                  go_roundg k5
                  case measure => have := HJ3.out; have := HK2.out; have := HJ28.out; have := HK4.out; have := HK5.out; omega
                  case rel => exact ⟨((((rd_T34 t254 x14_5).f1) == x12_4)), (wrap64 (x14_5 + 1)), (by first | rfl | (simp; done) | (simp [*]; done)), (by first | rfl | (simp; done) | (simp [*]; done)), H', ⟨by have := HJ3.out; have := HK2.out; have := HJ28.out; have := HK4.out; have := HK5.out; omega⟩, ⟨by (with_reducible repeat (first | apply Kd.R_alloc | apply Kd.R_drewN | apply Kd.R_drew)); exact HO_6.out⟩, ⟨by (with_reducible repeat (first | apply Kd.R_alloc | apply Kd.R_drewN | apply Kd.R_drew)); exact HO_8.out⟩, ⟨kZ HB⟩⟩
                 ·rw [if_neg c40] at H
                  exact absurd H (by simp)
               ·rw [if_neg c37] at H
                have c37b0 : decide (x14_5 < (t254.length : Int)) = false := decide_eq_false c37
                clear c37
                by_cases c42 : x13_5 = true
                ·subst c42
                 have H1 : (cantonlaw10_LocksFree.l1 k5 l0 t251 t254 x8_2 (wrap64 (x12_4 + 1))) = some r := by rw [if_pos rfl] at H; exact H
                 clear H
                 have H := H1
                 clear H1
                 have H' := Aside0.mk H
                 clear H
                 obtain ⟨Ao43, co43, eo43⟩ := Kd.R_slice HO_6.out
                 subst eo43
                 go_wp2
                 go_roundg k5
                 case measure => have := HJ3.out; have := HK2.out; have := HJ28.out; have := HK4.out; have := HK5.out; omega
                 case rel => exact ⟨(wrap64 (x12_4 + 1)), (by first | rfl | (simp; done) | (simp [*]; done)), H', ⟨by have := HJ3.out; have := HK2.out; have := HJ28.out; have := HK4.out; have := HK5.out; omega⟩, ⟨by (with_reducible repeat (first | apply Kd.R_alloc | apply Kd.R_drewN | apply Kd.R_drew)); exact HO_6.out⟩, ⟨by (with_reducible repeat (first | apply Kd.R_alloc | apply Kd.R_drewN | apply Kd.R_drew)); exact HO_8.out⟩, ⟨kZ HB⟩⟩
                ·replace c42 := Bool.eq_false_iff.mpr c42
                 subst c42
                 have H1 : ((locks_Take.f t254 x12_4 1 x8_2).bind fun bt269 => (if t251 = true then (if bt269.2.2 = true then (some ((bt269.1.length : Int) == (l0.length : Int))) else (some false)) else (some false))) = some r := by rw [if_neg (show ¬ (false = true) by decide)] at H; exact H
                 clear H
                 have H := H1
                 clear H1
                 replace H := Option.bind_eq_some_iff.mp H
                 obtain ⟨⟨t269, t272, t275⟩, A440, H⟩ := H
                 replace H : (if t251 = true then (if t275 = true then (some ((t269.length : Int) == (l0.length : Int))) else (some false)) else (some false)) = some r := H
                 have A44 := Aside0.mk A440
                 clear A440
                 by_cases c45 : t251 = true
                 ·subst c45
                  have H1 : (if t275 = true then (some ((t269.length : Int) == (l0.length : Int))) else (some false)) = some r := by rw [if_pos rfl] at H; exact H
                  clear H
                  have H := H1
                  clear H1
                  by_cases c46 : t275 = true
                  ·subst c46
                   have H1 : (some ((t269.length : Int) == (l0.length : Int))) = some r := by rw [if_pos rfl] at H; exact H
                   clear H
                   have H := H1
                   clear H1
                   obtain rfl := Option.some.inj H
                   obtain ⟨Ao47, co47, eo47⟩ := Kd.R_slice HO_6.out
                   subst eo47
                   obtain ⟨Ao48, co48, eo48⟩ := Kd.R_slice HO_8.out
                   subst eo48
                   go_wp2_with (first | ((with_reducible refine gate_callee (f := 11) rfl ?_); refine gL (some 122) Try.func11 #[.slice Ao47 t254.length co47, .int .i64 x12_4, .int .i64 1, .slice Ao48 x8_2.length co48] rfl rfl ?_; (with_reducible refine (locks_Take.calls (fun k_ => some k_ = (.slice Ao47 t254.length co47 : Value).ownBlock) _ _ t254 x12_4 1 _ _ x8_2 t269 t272 true _ ?side1 ?side2 ?side3 A44.out).mono ?_); (case side1 => exact Kd.R_V (Kd.R_tight rfl (Kd.R_apart' (HO_6.out) (Kd.R_typed HO_8.out) (by decide)))); (case side2 => exact kC ((Kd.R_reads' HO_8.out).2.2)); (case side3 => exact (Kd.R_reads' HO_8.out).2.1); rintro e w49 ⟨v270, v273, rfl, ho0, ho1, hb⟩; refine ⟨_, rfl, ?_⟩; have n0_ := Aside0.mk (Kd.R_below (kR HO_6) hb); have n1_ := Aside0.mk (Kd.R_below (kR HO_8) hb); have n2_ := Aside0.mk (Kd.V_lower (Kd.V_mono (ok' := fun k_ => some k_ ≠ (v273 : Value).ownBlock ∧ some k_ ≠ (.slice Ao48 x8_2.length co48 : Value).ownBlock) ho0 (fun k_ hk_ => ⟨hk_.2, Or.elim hk_.1 (fun hs_ => ((Kd.R_apart' (HO_6.out) (Kd.R_typed HO_8.out) (by decide)).1 k_ hs_.symm).2) (fun hn_ => (Kd.fresh' (Kd.R_lt (kR HO_8)) k_ hn_))⟩)) (below_size (kZ HB))); have n3_ := Aside0.mk (Kd.R_lower (Kd.R_mono (ok' := fun k_ => True) ho1 (fun _ hk_ => trivial)) (below_size (kZ HB))); have n4_ := Aside0.mk (below_step (kZ HB) hb); clear HO_6; clear HO_8; clear HB; have HO_6 := n0_; have HO_8 := n1_; have HO271 := n2_; have HO274 := n3_; have HB := n4_; clear n0_ n1_ n2_ n3_ n4_; (try clear hb); (try clear hb2); (try clear hk); (try clear hi); (try clear ho0); (try clear ho1); obtain ⟨Ao50, co50, eo50⟩ := Kd.V_slice HO271.out; subst eo50))
                   go_ret
                   exact ⟨by first | rfl | (simp [errW_none, errW_some] <;> rfl) | (simp [*, errW_none, errW_some] <;> rfl), kZ HB⟩
                  ·replace c46 := Bool.eq_false_iff.mpr c46
                   subst c46
                   have H1 : (some false) = some r := by rw [if_neg (show ¬ (false = true) by decide)] at H; exact H
                   clear H
                   have H := H1
                   clear H1
                   obtain rfl := Option.some.inj H
                   obtain ⟨Ao51, co51, eo51⟩ := Kd.R_slice HO_6.out
                   subst eo51
                   obtain ⟨Ao52, co52, eo52⟩ := Kd.R_slice HO_8.out
                   subst eo52
                   go_wp2_with (first | ((with_reducible refine gate_callee (f := 11) rfl ?_); refine gL (some 122) Try.func11 #[.slice Ao51 t254.length co51, .int .i64 x12_4, .int .i64 1, .slice Ao52 x8_2.length co52] rfl rfl ?_; (with_reducible refine (locks_Take.calls (fun k_ => some k_ = (.slice Ao51 t254.length co51 : Value).ownBlock) _ _ t254 x12_4 1 _ _ x8_2 t269 t272 false _ ?side1 ?side2 ?side3 A44.out).mono ?_); (case side1 => exact Kd.R_V (Kd.R_tight rfl (Kd.R_apart' (HO_6.out) (Kd.R_typed HO_8.out) (by decide)))); (case side2 => exact kC ((Kd.R_reads' HO_8.out).2.2)); (case side3 => exact (Kd.R_reads' HO_8.out).2.1); rintro e w53 ⟨v270, v273, rfl, ho0, ho1, hb⟩; refine ⟨_, rfl, ?_⟩; have n0_ := Aside0.mk (Kd.R_below (kR HO_6) hb); have n1_ := Aside0.mk (Kd.R_below (kR HO_8) hb); have n2_ := Aside0.mk (Kd.V_lower (Kd.V_mono (ok' := fun k_ => some k_ ≠ (v273 : Value).ownBlock ∧ some k_ ≠ (.slice Ao52 x8_2.length co52 : Value).ownBlock) ho0 (fun k_ hk_ => ⟨hk_.2, Or.elim hk_.1 (fun hs_ => ((Kd.R_apart' (HO_6.out) (Kd.R_typed HO_8.out) (by decide)).1 k_ hs_.symm).2) (fun hn_ => (Kd.fresh' (Kd.R_lt (kR HO_8)) k_ hn_))⟩)) (below_size (kZ HB))); have n3_ := Aside0.mk (Kd.R_lower (Kd.R_mono (ok' := fun k_ => True) ho1 (fun _ hk_ => trivial)) (below_size (kZ HB))); have n4_ := Aside0.mk (below_step (kZ HB) hb); clear HO_6; clear HO_8; clear HB; have HO_6 := n0_; have HO_8 := n1_; have HO271 := n2_; have HO274 := n3_; have HB := n4_; clear n0_ n1_ n2_ n3_ n4_; (try clear hb); (try clear hb2); (try clear hk); (try clear hi); (try clear ho0); (try clear ho1)))
                   go_ret
                   exact ⟨by first | rfl | (simp [errW_none, errW_some] <;> rfl) | (simp [*, errW_none, errW_some] <;> rfl), kZ HB⟩
                 ·replace c45 := Bool.eq_false_iff.mpr c45
                  subst c45
                  have H1 : (some false) = some r := by rw [if_neg (show ¬ (false = true) by decide)] at H; exact H
                  clear H
                  have H := H1
                  clear H1
                  obtain rfl := Option.some.inj H
                  obtain ⟨Ao54, co54, eo54⟩ := Kd.R_slice HO_6.out
                  subst eo54
                  obtain ⟨Ao55, co55, eo55⟩ := Kd.R_slice HO_8.out
                  subst eo55
                  go_wp2_with (first | ((with_reducible refine gate_callee (f := 11) rfl ?_); refine gL (some 122) Try.func11 #[.slice Ao54 t254.length co54, .int .i64 x12_4, .int .i64 1, .slice Ao55 x8_2.length co55] rfl rfl ?_; (with_reducible refine (locks_Take.calls (fun k_ => some k_ = (.slice Ao54 t254.length co54 : Value).ownBlock) _ _ t254 x12_4 1 _ _ x8_2 t269 t272 t275 _ ?side1 ?side2 ?side3 A44.out).mono ?_); (case side1 => exact Kd.R_V (Kd.R_tight rfl (Kd.R_apart' (HO_6.out) (Kd.R_typed HO_8.out) (by decide)))); (case side2 => exact kC ((Kd.R_reads' HO_8.out).2.2)); (case side3 => exact (Kd.R_reads' HO_8.out).2.1); rintro e w56 ⟨v270, v273, rfl, ho0, ho1, hb⟩; refine ⟨_, rfl, ?_⟩; have n0_ := Aside0.mk (Kd.R_below (kR HO_6) hb); have n1_ := Aside0.mk (Kd.R_below (kR HO_8) hb); have n2_ := Aside0.mk (Kd.V_lower (Kd.V_mono (ok' := fun k_ => some k_ ≠ (v273 : Value).ownBlock ∧ some k_ ≠ (.slice Ao55 x8_2.length co55 : Value).ownBlock) ho0 (fun k_ hk_ => ⟨hk_.2, Or.elim hk_.1 (fun hs_ => ((Kd.R_apart' (HO_6.out) (Kd.R_typed HO_8.out) (by decide)).1 k_ hs_.symm).2) (fun hn_ => (Kd.fresh' (Kd.R_lt (kR HO_8)) k_ hn_))⟩)) (below_size (kZ HB))); have n3_ := Aside0.mk (Kd.R_lower (Kd.R_mono (ok' := fun k_ => True) ho1 (fun _ hk_ => trivial)) (below_size (kZ HB))); have n4_ := Aside0.mk (below_step (kZ HB) hb); clear HO_6; clear HO_8; clear HB; have HO_6 := n0_; have HO_8 := n1_; have HO271 := n2_; have HO274 := n3_; have HB := n4_; clear n0_ n1_ n2_ n3_ n4_; (try clear hb); (try clear hb2); (try clear hk); (try clear hi); (try clear ho0); (try clear ho1)))
                  go_ret
                  exact ⟨by first | rfl | (simp [errW_none, errW_some] <;> rfl) | (simp [*, errW_none, errW_some] <;> rfl), kZ HB⟩
            ·rw [if_neg c36] at H
             have c36b0 : decide (x12_4 ≤ 200) = false := decide_eq_false c36
             clear c36
             obtain rfl := Option.some.inj H
             go_wp2
             go_ret
             exact ⟨by first | rfl | (simp [errW_none, errW_some] <;> rfl) | (simp [*, errW_none, errW_some] <;> rfl), kZ HB⟩

end Go.Proofs.Ytclomgbiomojjaa.Q
