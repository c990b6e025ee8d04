-- Written by a program of this session (xprint) out of the translation; over contracts proved by hand.
import Derived.Test.YtclomgbiomojjaaQx0
import Derived.Test.YtclomgbiomojjaaSq
import Derived.Test.YtclomgbiomojjaaQx2b
import Derived.Test.YtclomgbiomojjaaQx4
import Derived.Test.YtclomgbiomojjaaQx5
import Derived.Test.YtclomgbiomojjaaLHeld
import Derived.Test.YtclomgbiomojjaaLTake
namespace Go.Proofs.Ytclomgbiomojjaa.LDir2
end Go.Proofs.Ytclomgbiomojjaa.LDir2
namespace Go.Proofs.Ytclomgbiomojjaa.LFree
end Go.Proofs.Ytclomgbiomojjaa.LFree
namespace Go.Proofs.Ytclomgbiomojjaa.LHeld
end Go.Proofs.Ytclomgbiomojjaa.LHeld
namespace Go.Proofs.Ytclomgbiomojjaa.LRgt
end Go.Proofs.Ytclomgbiomojjaa.LRgt
namespace Go.Proofs.Ytclomgbiomojjaa.LTake
end Go.Proofs.Ytclomgbiomojjaa.LTake
namespace Go.Proofs.Ytclomgbiomojjaa.New
end Go.Proofs.Ytclomgbiomojjaa.New
namespace Go.Proofs.Ytclomgbiomojjaa.Split
end Go.Proofs.Ytclomgbiomojjaa.Split
namespace Go.Proofs.Ytclomgbiomojjaa.Q
open Go.Proofs.Ytclomgbiomojjaa.LDir2 Go.Proofs.Ytclomgbiomojjaa.LFree Go.Proofs.Ytclomgbiomojjaa.LHeld Go.Proofs.Ytclomgbiomojjaa.LRgt Go.Proofs.Ytclomgbiomojjaa.LTake Go.Proofs.Ytclomgbiomojjaa.New Go.Proofs.Ytclomgbiomojjaa.Split
set_option linter.unnecessarySimpa false
open Go.RowKit Go.Proofs.YtclomgbiomojjaaW.PrintWords Go.Proofs.YtclomgbiomojjaaW.PrintLast Go.Proofs.YtclomgbiomojjaaW.PrintMore
attribute [local go_sem] max2_int min2_int max_two min_two max_three min_three max_four min_four   -- for this text's walks alone
set_option linter.unusedVariables false
set_option linter.unusedSimpArgs false

/-! ### cantonlaw10_LocksOne: function 3 -/
mutual
def cantonlaw10_LocksOne.j0 : Nat → List (S34) → Int → Int → List ByteArray → Bool → Bool → Option (Bool)
 | 0, _, _, _, _, _, _ => none
 | k + 1, x0, x1, x2, x3, x9, x29 => if x29 = true then (some x9) else ((locks_Take.f x0 x1 x2 x3).bind fun bt178 => (if bt178.2.2 = true then ((cantonref10_Right.f k bt178.1).bind fun t186 => (if t186 = true then (cantonlaw10_LocksOne.j1 k x0 x1 x2 x3 x9 bt178.1 ((bt178.2.1.length : Int) != 0)) else (cantonlaw10_LocksOne.j1 k x0 x1 x2 x3 x9 bt178.1 true))) else (if x9 = true then (if (bt178.1.length : Int) = 0 then (some true) else ((cantonref10_Same.f k bt178.1 x0).bind fun t185 => (some t185))) else (some false))))
def cantonlaw10_LocksOne.j1 : Nat → List (S34) → Int → Int → List ByteArray → Bool → List (S34) → Bool → Option (Bool)
 | 0, _, _, _, _, _, _, _ => none
 | k + 1, x0, x1, x2, x3, x9, x10, x60 => if x60 = true then (some false) else (cantonlaw10_LocksOne.l0 k x0 x1 x2 x3 x9 x10 0)
def cantonlaw10_LocksOne.l0 : Nat → List (S34) → Int → Int → List ByteArray → Bool → List (S34) → Int → Option (Bool)
 | 0, _, _, _, _, _, _, _ => none
 | k + 1, x0, x1, x2, x3, x9, x10, x13 => if x13 < (x3.length : Int) then (if 0 ≤ x13 then ((locks_Held.f x10 (rdOf ByteArray.empty x3 x13)).bind fun bt188 => (if bt188.2 = true then (if bt188.1 = x1 then (cantonlaw10_LocksOne.l0 k x0 x1 x2 x3 x9 x10 (wrap64 (x13 + 1))) else (some false)) else (some false))) else (none)) else (cantonlaw10_LocksOne.l1 k x0 x1 x2 x3 x9 x10 0)
def cantonlaw10_LocksOne.l1 : Nat → List (S34) → Int → Int → List ByteArray → Bool → List (S34) → Int → Option (Bool)
 | 0, _, _, _, _, _, _, _ => none
 | k + 1, x0, x1, x2, x3, x9, x10, x16 => if x16 < (x10.length : Int) then (if 0 ≤ x16 then ((locks_Held.f x0 ((rd_T34 x10 x16).f0)).bind fun bt191 => (cantonlaw10_LocksOne.l2 k x0 x1 x2 x3 x9 x10 x16 bt191.1 bt191.2 false 0)) else (none)) else (if x9 = true then (some (decide ((x10.length : Int) ≥ (x0.length : Int)))) else (some false))
def cantonlaw10_LocksOne.l2 : Nat → List (S34) → Int → Int → List ByteArray → Bool → List (S34) → Int → Int → Bool → Bool → Int → Option (Bool)
 | 0, _, _, _, _, _, _, _, _, _, _, _ => none
 | k + 1, x0, x1, x2, x3, x9, x10, x16, x17, x18, x19, x20 => if x20 < (x3.length : Int) then (if x19 = true then (cantonlaw10_LocksOne.l2 k x0 x1 x2 x3 x9 x10 x16 x17 x18 true (wrap64 (x20 + 1))) else (if 0 ≤ x20 then (if 0 ≤ x16 then (if x16 < (x10.length : Int) then (cantonlaw10_LocksOne.l2 k x0 x1 x2 x3 x9 x10 x16 x17 x18 ((rdOf ByteArray.empty x3 x20).toList == ((rd_T34 x10 x16).f0).toList) (wrap64 (x20 + 1))) else (none)) else (none)) else (none))) else (if x18 = true then (if 0 ≤ x16 then (if x16 < (x10.length : Int) then (if x17 = ((rd_T34 x10 x16).f1) then (cantonlaw10_LocksOne.l1 k x0 x1 x2 x3 x9 x10 (wrap64 (x16 + 1))) else (some false)) else (none)) else (none)) else (if x19 = true then (if 0 ≤ x16 then (if x16 < (x10.length : Int) then (if ((rd_T34 x10 x16).f1) = x1 then (if ((rd_T34 x10 x16).f2) = x2 then (cantonlaw10_LocksOne.l1 k x0 x1 x2 x3 x9 x10 (wrap64 (x16 + 1))) else (some false)) else (some false)) else (none)) else (none)) else (some false)))
end
def cantonlaw10_LocksOne.f (k : Nat) (l0 : List (S34)) (a1 : Int) (a2 : Int) (l3 : List ByteArray) : Option (Bool) := (cantonlaw10_head.f).bind fun t175 => ((cantonlaw10_great.f k l0 l3).bind fun t176 => (if t176 = true then (cantonlaw10_LocksOne.j0 k l0 a1 a2 l3 t175 true) else ((cantonref10_Right.f k l0).bind fun t177 => (cantonlaw10_LocksOne.j0 k l0 a1 a2 l3 t175 (!t177)))))
theorem cantonlaw10_LocksOne.mono_l : ∀ k, (∀ y0 y1 y2 y3 y4 y5, LeO (cantonlaw10_LocksOne.j0 k y0 y1 y2 y3 y4 y5) (cantonlaw10_LocksOne.j0 (k + 1) y0 y1 y2 y3 y4 y5)) ∧ (∀ y0 y1 y2 y3 y4 y5 y6, LeO (cantonlaw10_LocksOne.j1 k y0 y1 y2 y3 y4 y5 y6) (cantonlaw10_LocksOne.j1 (k + 1) y0 y1 y2 y3 y4 y5 y6)) ∧ (∀ y0 y1 y2 y3 y4 y5 y6, LeO (cantonlaw10_LocksOne.l0 k y0 y1 y2 y3 y4 y5 y6) (cantonlaw10_LocksOne.l0 (k + 1) y0 y1 y2 y3 y4 y5 y6)) ∧ (∀ y0 y1 y2 y3 y4 y5 y6, LeO (cantonlaw10_LocksOne.l1 k y0 y1 y2 y3 y4 y5 y6) (cantonlaw10_LocksOne.l1 (k + 1) y0 y1 y2 y3 y4 y5 y6)) ∧ (∀ y0 y1 y2 y3 y4 y5 y6 y7 y8 y9 y10, LeO (cantonlaw10_LocksOne.l2 k y0 y1 y2 y3 y4 y5 y6 y7 y8 y9 y10) (cantonlaw10_LocksOne.l2 (k + 1) y0 y1 y2 y3 y4 y5 y6 y7 y8 y9 y10))
 | 0 => ⟨fun _ _ _ _ _ _ r h => by simp [cantonlaw10_LocksOne.j0] at h, fun _ _ _ _ _ _ _ r h => by simp [cantonlaw10_LocksOne.j1] at h, fun _ _ _ _ _ _ _ r h => by simp [cantonlaw10_LocksOne.l0] at h, fun _ _ _ _ _ _ _ r h => by simp [cantonlaw10_LocksOne.l1] at h, fun _ _ _ _ _ _ _ _ _ _ _ r h => by simp [cantonlaw10_LocksOne.l2] at h⟩
 | k + 1 => by
  obtain ⟨ih0, ih1, ih2, ih3, ih4⟩ := cantonlaw10_LocksOne.mono_l k
  refine ⟨?_, ?_, ?_, ?_, ?_⟩
  ·intro y0 y1 y2 y3 y4 y5
   unfold cantonlaw10_LocksOne.j0
   repeat' first
   | (with_reducible exact ih0 _ _ _ _ _ _)
   | (with_reducible exact ih1 _ _ _ _ _ _ _)
   | (with_reducible exact ih2 _ _ _ _ _ _ _)
   | (with_reducible exact ih3 _ _ _ _ _ _ _)
   | (with_reducible exact ih4 _ _ _ _ _ _ _ _ _ _ _)
   | (with_reducible exact cantonlaw10_great.mono _ _ _)
   | (with_reducible exact cantonref10_Right.mono _ _)
   | (with_reducible exact cantonref10_Same.mono _ _ _)
   | (with_reducible exact LeO.refl _)
   | (with_reducible exact LeO.none _)
   | (with_reducible refine LeO.ite ?_ ?_)
   | (with_reducible refine LeO.bind ?_ (fun _ => ?_))
   | exact ih0 _ _ _ _ _ _
   | exact ih1 _ _ _ _ _ _ _
   | exact ih2 _ _ _ _ _ _ _
   | exact ih3 _ _ _ _ _ _ _
   | exact ih4 _ _ _ _ _ _ _ _ _ _ _
   | exact cantonlaw10_great.mono _ _ _
   | exact cantonref10_Right.mono _ _
   | exact cantonref10_Same.mono _ _ _
   | exact LeO.none _
   | refine LeO.ite ?_ ?_
   | refine LeO.bind ?_ (fun _ => ?_)
  ·intro y0 y1 y2 y3 y4 y5 y6
   unfold cantonlaw10_LocksOne.j1
   repeat' first
   | (with_reducible exact ih0 _ _ _ _ _ _)
   | (with_reducible exact ih1 _ _ _ _ _ _ _)
   | (with_reducible exact ih2 _ _ _ _ _ _ _)
   | (with_reducible exact ih3 _ _ _ _ _ _ _)
   | (with_reducible exact ih4 _ _ _ _ _ _ _ _ _ _ _)
   | (with_reducible exact cantonlaw10_great.mono _ _ _)
   | (with_reducible exact cantonref10_Right.mono _ _)
   | (with_reducible exact cantonref10_Same.mono _ _ _)
   | (with_reducible exact LeO.refl _)
   | (with_reducible exact LeO.none _)
   | (with_reducible refine LeO.ite ?_ ?_)
   | (with_reducible refine LeO.bind ?_ (fun _ => ?_))
   | exact ih0 _ _ _ _ _ _
   | exact ih1 _ _ _ _ _ _ _
   | exact ih2 _ _ _ _ _ _ _
   | exact ih3 _ _ _ _ _ _ _
   | exact ih4 _ _ _ _ _ _ _ _ _ _ _
   | exact cantonlaw10_great.mono _ _ _
   | exact cantonref10_Right.mono _ _
   | exact cantonref10_Same.mono _ _ _
   | exact LeO.none _
   | refine LeO.ite ?_ ?_
   | refine LeO.bind ?_ (fun _ => ?_)
  ·intro y0 y1 y2 y3 y4 y5 y6
   unfold cantonlaw10_LocksOne.l0
   repeat' first
   | (with_reducible exact ih0 _ _ _ _ _ _)
   | (with_reducible exact ih1 _ _ _ _ _ _ _)
   | (with_reducible exact ih2 _ _ _ _ _ _ _)
   | (with_reducible exact ih3 _ _ _ _ _ _ _)
   | (with_reducible exact ih4 _ _ _ _ _ _ _ _ _ _ _)
   | (with_reducible exact cantonlaw10_great.mono _ _ _)
   | (with_reducible exact cantonref10_Right.mono _ _)
   | (with_reducible exact cantonref10_Same.mono _ _ _)
   | (with_reducible exact LeO.refl _)
   | (with_reducible exact LeO.none _)
   | (with_reducible refine LeO.ite ?_ ?_)
   | (with_reducible refine LeO.bind ?_ (fun _ => ?_))
   | exact ih0 _ _ _ _ _ _
   | exact ih1 _ _ _ _ _ _ _
   | exact ih2 _ _ _ _ _ _ _
   | exact ih3 _ _ _ _ _ _ _
   | exact ih4 _ _ _ _ _ _ _ _ _ _ _
   | exact cantonlaw10_great.mono _ _ _
   | exact cantonref10_Right.mono _ _
   | exact cantonref10_Same.mono _ _ _
   | exact LeO.none _
   | refine LeO.ite ?_ ?_
   | refine LeO.bind ?_ (fun _ => ?_)
  ·intro y0 y1 y2 y3 y4 y5 y6
   unfold cantonlaw10_LocksOne.l1
   repeat' first
   | (with_reducible exact ih0 _ _ _ _ _ _)
   | (with_reducible exact ih1 _ _ _ _ _ _ _)
   | (with_reducible exact ih2 _ _ _ _ _ _ _)
   | (with_reducible exact ih3 _ _ _ _ _ _ _)
   | (with_reducible exact ih4 _ _ _ _ _ _ _ _ _ _ _)
   | (with_reducible exact cantonlaw10_great.mono _ _ _)
   | (with_reducible exact cantonref10_Right.mono _ _)
   | (with_reducible exact cantonref10_Same.mono _ _ _)
   | (with_reducible exact LeO.refl _)
   | (with_reducible exact LeO.none _)
   | (with_reducible refine LeO.ite ?_ ?_)
   | (with_reducible refine LeO.bind ?_ (fun _ => ?_))
   | exact ih0 _ _ _ _ _ _
   | exact ih1 _ _ _ _ _ _ _
   | exact ih2 _ _ _ _ _ _ _
   | exact ih3 _ _ _ _ _ _ _
   | exact ih4 _ _ _ _ _ _ _ _ _ _ _
   | exact cantonlaw10_great.mono _ _ _
   | exact cantonref10_Right.mono _ _
   | exact cantonref10_Same.mono _ _ _
   | exact LeO.none _
   | refine LeO.ite ?_ ?_
   | refine LeO.bind ?_ (fun _ => ?_)
  ·intro y0 y1 y2 y3 y4 y5 y6 y7 y8 y9 y10
   unfold cantonlaw10_LocksOne.l2
   repeat' first
   | (with_reducible exact ih0 _ _ _ _ _ _)
   | (with_reducible exact ih1 _ _ _ _ _ _ _)
   | (with_reducible exact ih2 _ _ _ _ _ _ _)
   | (with_reducible exact ih3 _ _ _ _ _ _ _)
   | (with_reducible exact ih4 _ _ _ _ _ _ _ _ _ _ _)
   | (with_reducible exact cantonlaw10_great.mono _ _ _)
   | (with_reducible exact cantonref10_Right.mono _ _)
   | (with_reducible exact cantonref10_Same.mono _ _ _)
   | (with_reducible exact LeO.refl _)
   | (with_reducible exact LeO.none _)
   | (with_reducible refine LeO.ite ?_ ?_)
   | (with_reducible refine LeO.bind ?_ (fun _ => ?_))
   | exact ih0 _ _ _ _ _ _
   | exact ih1 _ _ _ _ _ _ _
   | exact ih2 _ _ _ _ _ _ _
   | exact ih3 _ _ _ _ _ _ _
   | exact ih4 _ _ _ _ _ _ _ _ _ _ _
   | exact cantonlaw10_great.mono _ _ _
   | exact cantonref10_Right.mono _ _
   | exact cantonref10_Same.mono _ _ _
   | exact LeO.none _
   | refine LeO.ite ?_ ?_
   | refine LeO.bind ?_ (fun _ => ?_)
theorem cantonlaw10_LocksOne.mono : ∀ a0 a1 a2 a3 k, LeO (cantonlaw10_LocksOne.f k a0 a1 a2 a3) (cantonlaw10_LocksOne.f (k + 1) a0 a1 a2 a3) := by
 intro a0 a1 a2 a3 k
 obtain ⟨ih0, ih1, ih2, ih3, ih4⟩ := cantonlaw10_LocksOne.mono_l k
 unfold cantonlaw10_LocksOne.f
 repeat' first
   | (with_reducible exact ih0 _ _ _ _ _ _)
   | (with_reducible exact ih1 _ _ _ _ _ _ _)
   | (with_reducible exact ih2 _ _ _ _ _ _ _)
   | (with_reducible exact ih3 _ _ _ _ _ _ _)
   | (with_reducible exact ih4 _ _ _ _ _ _ _ _ _ _ _)
   | (with_reducible exact cantonlaw10_great.mono _ _ _)
   | (with_reducible exact cantonref10_Right.mono _ _)
   | (with_reducible exact cantonref10_Same.mono _ _ _)
   | (with_reducible exact LeO.refl _)
   | (with_reducible exact LeO.none _)
   | (with_reducible refine LeO.ite ?_ ?_)
   | (with_reducible refine LeO.bind ?_ (fun _ => ?_))
   | exact ih0 _ _ _ _ _ _
   | exact ih1 _ _ _ _ _ _ _
   | exact ih2 _ _ _ _ _ _ _
   | exact ih3 _ _ _ _ _ _ _
   | exact ih4 _ _ _ _ _ _ _ _ _ _ _
   | exact cantonlaw10_great.mono _ _ _
   | exact cantonref10_Right.mono _ _
   | exact cantonref10_Same.mono _ _ _
   | exact LeO.none _
   | refine LeO.ite ?_ ?_
   | refine LeO.bind ?_ (fun _ => ?_)
set_option maxHeartbeats 8000000 in
set_option maxRecDepth 100000 in
theorem cantonlaw10_LocksOne.calls (k : Nat) (A0 : Option Addr) (c0 : Nat) (l0 : List (S34)) (a1 : Int) (a2 : Int) (A3 : Option Addr) (c3 : Nat) (l3 : List ByteArray) (r : Bool) (w : World) (hr0 : Kd.C k34 w A0 l0.length l0) (hc0 : l0.length ≤ c0) (hr3 : Kd.C Kd.string w A3 l3.length l3) (hc3 : l3.length ≤ c3) (h : cantonlaw10_LocksOne.f k l0 a1 a2 l3 = some r) :
  Calls Try.prog 3 #[.slice A0 l0.length c0, .int .i64 a1, .int .i64 a2, .slice A3 l3.length c3] w fun e w' => e = .returned (.bool r) ∧ Below w.heap.size w w' := by
 have HR0 := Aside0.mk hr0
 have HC0 := Aside0.mk hc0
 clear hr0 hc0
 have HR3 := Aside0.mk hr3
 have HC3 := Aside0.mk hc3
 clear hr3 hc3
 have HB := Aside0.mk (Below.refl w.heap.size w)
 have H : ((cantonlaw10_head.f).bind fun t175 => ((cantonlaw10_great.f k l0 l3).bind fun t176 => (if t176 = true then (cantonlaw10_LocksOne.j0 k l0 a1 a2 l3 t175 true) else ((cantonref10_Right.f k l0).bind fun t177 => (cantonlaw10_LocksOne.j0 k l0 a1 a2 l3 t175 (!t177)))))) = some r := h
 clear h
 replace H := Option.bind_eq_some_iff.mp H
 obtain ⟨t175, A50, H⟩ := H
 replace H : ((cantonlaw10_great.f k l0 l3).bind fun t176 => (if t176 = true then (cantonlaw10_LocksOne.j0 k l0 a1 a2 l3 t175 true) else ((cantonref10_Right.f k l0).bind fun t177 => (cantonlaw10_LocksOne.j0 k l0 a1 a2 l3 t175 (!t177))))) = some r := H
 have A5 := Aside0.mk A50
 clear A50
 have HC6 := Aside0.mk H
 clear H
 go_enter Try.func3, Try.ntmps3
 go_upto_region 2 with (first | (go_at_call 8; (with_reducible refine (cantonlaw10_head.calls  t175 _ A5.out).mono ?_); rintro e w7 ⟨rfl, hb⟩; have n0_ := Aside0.mk (below_step (kZ HB) hb); clear HB; have HB := n0_; clear n0_; (try clear hb); (try clear hb2); (try clear hk); (try clear hi)))
 repeat (go_quiet (first | (go_at_call 8; (with_reducible refine (cantonlaw10_head.calls  t175 _ A5.out).mono ?_); rintro e w7 ⟨rfl, hb⟩; have n0_ := Aside0.mk (below_step (kZ HB) hb); clear HB; have HB := n0_; clear n0_; (try clear hb); (try clear hb2); (try clear hk); (try clear hi))); go_upto_region 2 with (first | (go_at_call 8; (with_reducible refine (cantonlaw10_head.calls  t175 _ A5.out).mono ?_); rintro e w7 ⟨rfl, hb⟩; have n0_ := Aside0.mk (below_step (kZ HB) hb); clear HB; have HB := n0_; clear n0_; (try clear hb); (try clear hb2); (try clear hk); (try clear hi))))
 (try simp only [Act.put, List.setIfInBounds_toArray, List.set_cons_zero, List.set_cons_succ])
 go_cut [29] (fun v29 wc => ∃ (kq : Nat) (x29_5 : Bool), v29 = .bool x29_5 ∧ Aside0 (cantonlaw10_LocksOne.j0 kq l0 a1 a2 l3 t175 x29_5 = some r) ∧ Aside0 (kq ≤ k) ∧ Aside0 (Below w.heap.size w wc))
 case first =>
  have H := HC6.out
  clear HC6
  replace H := Option.bind_eq_some_iff.mp H
  obtain ⟨t176, A80, H⟩ := H
  replace H : (if t176 = true then (cantonlaw10_LocksOne.j0 k l0 a1 a2 l3 t175 true) else ((cantonref10_Right.f k l0).bind fun t177 => (cantonlaw10_LocksOne.j0 k l0 a1 a2 l3 t175 (!t177)))) = some r := H
  have A8 := Aside0.mk A80
  clear A80
  by_cases c9 : t176 = true
  ·subst c9
   have H1 : (cantonlaw10_LocksOne.j0 k l0 a1 a2 l3 t175 true) = some r := by rw [if_pos rfl] at H; exact H
   clear H
   have H := H1
   clear H1
   have H' := Aside0.mk H
   clear H
   go_wp2_with (first | (go_at_call 9; (with_reducible refine (cantonlaw10_great.calls k _ _ l0 _ _ l3 true _ ?side1 ?side2 ?side3 ?side4 A8.out).mono ?_); (case side1 => exact kC ((Kd.C_below HR0.out HB.out))); (case side2 => exact HC0.out); (case side3 => exact kC ((Kd.C_below HR3.out HB.out))); (case side4 => exact HC3.out); rintro e w10 ⟨rfl, hb⟩; have n0_ := Aside0.mk (below_step (kZ HB) hb); clear HB; have HB := n0_; clear n0_; (try clear hb); (try clear hb2); (try clear hk); (try clear hi)))
   repeat (go_quiet (first | (go_at_call 9; (with_reducible refine (cantonlaw10_great.calls k _ _ l0 _ _ l3 true _ ?side1 ?side2 ?side3 ?side4 A8.out).mono ?_); (case side1 => exact kC ((Kd.C_below HR0.out HB.out))); (case side2 => exact HC0.out); (case side3 => exact kC ((Kd.C_below HR3.out HB.out))); (case side4 => exact HC3.out); rintro e w10 ⟨rfl, hb⟩; have n0_ := Aside0.mk (below_step (kZ HB) hb); clear HB; have HB := n0_; clear n0_; (try clear hb); (try clear hb2); (try clear hk); (try clear hi))); try go_wp2_with (first | (go_at_call 9; (with_reducible refine (cantonlaw10_great.calls k _ _ l0 _ _ l3 true _ ?side1 ?side2 ?side3 ?side4 A8.out).mono ?_); (case side1 => exact kC ((Kd.C_below HR0.out HB.out))); (case side2 => exact HC0.out); (case side3 => exact kC ((Kd.C_below HR3.out HB.out))); (case side4 => exact HC3.out); rintro e w10 ⟨rfl, hb⟩; have n0_ := Aside0.mk (below_step (kZ HB) hb); clear HB; have HB := n0_; clear n0_; (try clear hb); (try clear hb2); (try clear hk); (try clear hi))))
   go_meet
   case rel => exact ⟨_, (true), (by first | rfl | (simp; done) | (simp [*]; done)), H', ⟨by first | omega | exact Nat.le_refl _⟩, ⟨kZ HB⟩⟩
  ·replace c9 := Bool.eq_false_iff.mpr c9
   subst c9
   have H1 : ((cantonref10_Right.f k l0).bind fun t177 => (cantonlaw10_LocksOne.j0 k l0 a1 a2 l3 t175 (!t177))) = some r := by rw [if_neg (show ¬ (false = true) by decide)] at H; exact H
   clear H
   have H := H1
   clear H1
   replace H := Option.bind_eq_some_iff.mp H
   obtain ⟨t177, A110, H⟩ := H
   replace H : (cantonlaw10_LocksOne.j0 k l0 a1 a2 l3 t175 (!t177)) = some r := H
   have A11 := Aside0.mk A110
   clear A110
   have H' := Aside0.mk H
   clear H
   go_wp2_with (first | (go_at_call 9; (with_reducible refine (cantonlaw10_great.calls k _ _ l0 _ _ l3 false _ ?side1 ?side2 ?side3 ?side4 A8.out).mono ?_); (case side1 => exact kC ((Kd.C_below HR0.out HB.out))); (case side2 => exact HC0.out); (case side3 => exact kC ((Kd.C_below HR3.out HB.out))); (case side4 => exact HC3.out); rintro e w12 ⟨rfl, hb⟩; have n0_ := Aside0.mk (below_step (kZ HB) hb); clear HB; have HB := n0_; clear n0_; (try clear hb); (try clear hb2); (try clear hk); (try clear hi)) | (go_at_call 10; (with_reducible refine (cantonref10_Right.calls k _ _ l0 t177 _ ?side1 ?side2 A11.out).mono ?_); (case side1 => exact kC ((Kd.C_below HR0.out HB.out))); (case side2 => exact HC0.out); rintro e w13 ⟨rfl, hb⟩; have n0_ := Aside0.mk (below_step (kZ HB) hb); clear HB; have HB := n0_; clear n0_; (try clear hb); (try clear hb2); (try clear hk); (try clear hi)))
   repeat (go_quiet (first | (go_at_call 9; (with_reducible refine (cantonlaw10_great.calls k _ _ l0 _ _ l3 false _ ?side1 ?side2 ?side3 ?side4 A8.out).mono ?_); (case side1 => exact kC ((Kd.C_below HR0.out HB.out))); (case side2 => exact HC0.out); (case side3 => exact kC ((Kd.C_below HR3.out HB.out))); (case side4 => exact HC3.out); rintro e w12 ⟨rfl, hb⟩; have n0_ := Aside0.mk (below_step (kZ HB) hb); clear HB; have HB := n0_; clear n0_; (try clear hb); (try clear hb2); (try clear hk); (try clear hi)) | (go_at_call 10; (with_reducible refine (cantonref10_Right.calls k _ _ l0 t177 _ ?side1 ?side2 A11.out).mono ?_); (case side1 => exact kC ((Kd.C_below HR0.out HB.out))); (case side2 => exact HC0.out); rintro e w13 ⟨rfl, hb⟩; have n0_ := Aside0.mk (below_step (kZ HB) hb); clear HB; have HB := n0_; clear n0_; (try clear hb); (try clear hb2); (try clear hk); (try clear hi))); try go_wp2_with (first | (go_at_call 9; (with_reducible refine (cantonlaw10_great.calls k _ _ l0 _ _ l3 false _ ?side1 ?side2 ?side3 ?side4 A8.out).mono ?_); (case side1 => exact kC ((Kd.C_below HR0.out HB.out))); (case side2 => exact HC0.out); (case side3 => exact kC ((Kd.C_below HR3.out HB.out))); (case side4 => exact HC3.out); rintro e w12 ⟨rfl, hb⟩; have n0_ := Aside0.mk (below_step (kZ HB) hb); clear HB; have HB := n0_; clear n0_; (try clear hb); (try clear hb2); (try clear hk); (try clear hi)) | (go_at_call 10; (with_reducible refine (cantonref10_Right.calls k _ _ l0 t177 _ ?side1 ?side2 A11.out).mono ?_); (case side1 => exact kC ((Kd.C_below HR0.out HB.out))); (case side2 => exact HC0.out); rintro e w13 ⟨rfl, hb⟩; have n0_ := Aside0.mk (below_step (kZ HB) hb); clear HB; have HB := n0_; clear n0_; (try clear hb); (try clear hb2); (try clear hk); (try clear hi))))
   go_meet
   case rel => exact ⟨_, (!t177), (by first | rfl | (simp; done) | (simp [*]; done)), H', ⟨by first | omega | exact Nat.le_refl _⟩, ⟨kZ HB⟩⟩
 case rest =>
  clear HC6
  try clear p2
  try clear c3
  try clear c9
  obtain ⟨kq, x29_5, rfl, HA, HJ5, HB⟩ := hcut
  cases kq with
  | zero => exact absurd HA.out (by simp [cantonlaw10_LocksOne.j0])
  | succ kj5 =>
   have H := HA.out
   clear HA
   simp only [cantonlaw10_LocksOne.j0] at H
   by_cases c14 : x29_5 = true
   ·subst c14
    have H1 : (some t175) = some r := by rw [if_pos rfl] at H; exact H
    clear H
    have H := H1
    clear H1
    obtain rfl := Option.some.inj H
    go_wp2
    repeat (go_quiet (fail); try go_wp2)
    go_ret
    exact ⟨by first | rfl | (simp [errW_none, errW_some] <;> rfl) | (simp [*, errW_none, errW_some] <;> rfl), kZ HB⟩
   ·replace c14 := Bool.eq_false_iff.mpr c14
    subst c14
    have H1 : ((locks_Take.f l0 a1 a2 l3).bind fun bt178 => (if bt178.2.2 = true then ((cantonref10_Right.f kj5 bt178.1).bind fun t186 => (if t186 = true then (cantonlaw10_LocksOne.j1 kj5 l0 a1 a2 l3 t175 bt178.1 ((bt178.2.1.length : Int) != 0)) else (cantonlaw10_LocksOne.j1 kj5 l0 a1 a2 l3 t175 bt178.1 true))) else (if t175 = true then (if (bt178.1.length : Int) = 0 then (some true) else ((cantonref10_Same.f kj5 bt178.1 l0).bind fun t185 => (some t185))) else (some false)))) = some r := by rw [if_neg (show ¬ (false = true) by decide)] at H; exact H
    clear H
    have H := H1
    clear H1
    replace H := Option.bind_eq_some_iff.mp H
    obtain ⟨⟨t178, t181, t184⟩, A150, H⟩ := H
    replace H : (if t184 = true then ((cantonref10_Right.f kj5 t178).bind fun t186 => (if t186 = true then (cantonlaw10_LocksOne.j1 kj5 l0 a1 a2 l3 t175 t178 ((t181.length : Int) != 0)) else (cantonlaw10_LocksOne.j1 kj5 l0 a1 a2 l3 t175 t178 true))) else (if t175 = true then (if (t178.length : Int) = 0 then (some true) else ((cantonref10_Same.f kj5 t178 l0).bind fun t185 => (some t185))) else (some false))) = some r := H
    have A15 := Aside0.mk A150
    clear A150
    by_cases c16 : t184 = true
    ·subst c16
     have H1 : ((cantonref10_Right.f kj5 t178).bind fun t186 => (if t186 = true then (cantonlaw10_LocksOne.j1 kj5 l0 a1 a2 l3 t175 t178 ((t181.length : Int) != 0)) else (cantonlaw10_LocksOne.j1 kj5 l0 a1 a2 l3 t175 t178 true))) = some r := by rw [if_pos rfl] at H; exact H
     clear H
     have H := H1
     clear H1
     have HC17 := Aside0.mk H
     clear H
     go_upto_region 7 with (first | (go_at_call 11; (with_reducible refine (locks_Take.calls (fun k_ => k_ < w.heap.size) _ _ l0 a1 a2 _ _ l3 t178 t181 true _ ?side1 ?side2 ?side3 A15.out).mono ?_); (case side1 => exact Kd.V_mk HC0.out (Kd.F_below (Kd.C_F k34_heap HR0.out) (kZ HB))); (case side2 => exact kC ((Kd.C_below HR3.out HB.out))); (case side3 => exact HC3.out); rintro e w18 ⟨v179, v182, rfl, ho0, ho1, hb⟩; have n0_ := Aside0.mk (Kd.V_lower (Kd.V_mono (ok' := fun k_ => some k_ ≠ (v182 : Value).ownBlock) ho0 (fun k_ hk_ => hk_.2)) (below_size (kZ HB))); have n1_ := Aside0.mk (Kd.R_lower (Kd.R_mono (ok' := fun k_ => True) ho1 (fun _ hk_ => trivial)) (below_size (kZ HB))); have n2_ := Aside0.mk (below_step (kZ HB) hb); clear HB; have HO180 := n0_; have HO183 := n1_; have HB := n2_; clear n0_ n1_ n2_; (try clear hb); (try clear hb2); (try clear hk); (try clear hi); (try clear ho0); (try clear ho1)))
     repeat (go_quiet (first | (go_at_call 11; (with_reducible refine (locks_Take.calls (fun k_ => k_ < w.heap.size) _ _ l0 a1 a2 _ _ l3 t178 t181 true _ ?side1 ?side2 ?side3 A15.out).mono ?_); (case side1 => exact Kd.V_mk HC0.out (Kd.F_below (Kd.C_F k34_heap HR0.out) (kZ HB))); (case side2 => exact kC ((Kd.C_below HR3.out HB.out))); (case side3 => exact HC3.out); rintro e w18 ⟨v179, v182, rfl, ho0, ho1, hb⟩; have n0_ := Aside0.mk (Kd.V_lower (Kd.V_mono (ok' := fun k_ => some k_ ≠ (v182 : Value).ownBlock) ho0 (fun k_ hk_ => hk_.2)) (below_size (kZ HB))); have n1_ := Aside0.mk (Kd.R_lower (Kd.R_mono (ok' := fun k_ => True) ho1 (fun _ hk_ => trivial)) (below_size (kZ HB))); have n2_ := Aside0.mk (below_step (kZ HB) hb); clear HB; have HO180 := n0_; have HO183 := n1_; have HB := n2_; clear n0_ n1_ n2_; (try clear hb); (try clear hb2); (try clear hk); (try clear hi); (try clear ho0); (try clear ho1))); go_upto_region 7 with (first | (go_at_call 11; (with_reducible refine (locks_Take.calls (fun k_ => k_ < w.heap.size) _ _ l0 a1 a2 _ _ l3 t178 t181 true _ ?side1 ?side2 ?side3 A15.out).mono ?_); (case side1 => exact Kd.V_mk HC0.out (Kd.F_below (Kd.C_F k34_heap HR0.out) (kZ HB))); (case side2 => exact kC ((Kd.C_below HR3.out HB.out))); (case side3 => exact HC3.out); rintro e w18 ⟨v179, v182, rfl, ho0, ho1, hb⟩; have n0_ := Aside0.mk (Kd.V_lower (Kd.V_mono (ok' := fun k_ => some k_ ≠ (v182 : Value).ownBlock) ho0 (fun k_ hk_ => hk_.2)) (below_size (kZ HB))); have n1_ := Aside0.mk (Kd.R_lower (Kd.R_mono (ok' := fun k_ => True) ho1 (fun _ hk_ => trivial)) (below_size (kZ HB))); have n2_ := Aside0.mk (below_step (kZ HB) hb); clear HB; have HO180 := n0_; have HO183 := n1_; have HB := n2_; clear n0_ n1_ n2_; (try clear hb); (try clear hb2); (try clear hk); (try clear hi); (try clear ho0); (try clear ho1))))
     (try simp only [Act.put, List.setIfInBounds_toArray, List.set_cons_zero, List.set_cons_succ])
     go_cut [60] (fun v60 wc => ∃ (kq : Nat) (x60_16 : Bool), v60 = .bool x60_16 ∧ Aside0 (cantonlaw10_LocksOne.j1 kq l0 a1 a2 l3 t175 t178 x60_16 = some r) ∧ Aside0 (kq ≤ kj5) ∧ Aside0 (Kd.V k34 34 wc w.heap.size (fun _ => True) v179 t178) ∧ Aside0 (Below w.heap.size w wc))
     case first =>
      have H := HC17.out
      clear HC17
      replace H := Option.bind_eq_some_iff.mp H
      obtain ⟨t186, A190, H⟩ := H
      replace H : (if t186 = true then (cantonlaw10_LocksOne.j1 kj5 l0 a1 a2 l3 t175 t178 ((t181.length : Int) != 0)) else (cantonlaw10_LocksOne.j1 kj5 l0 a1 a2 l3 t175 t178 true)) = some r := H
      have A19 := Aside0.mk A190
      clear A190
      by_cases c20 : t186 = true
      ·subst c20
       have H1 : (cantonlaw10_LocksOne.j1 kj5 l0 a1 a2 l3 t175 t178 ((t181.length : Int) != 0)) = some r := by rw [if_pos rfl] at H; exact H
       clear H
       have H := H1
       clear H1
       have H' := Aside0.mk H
       clear H
       obtain ⟨Ao21, co21, eo21⟩ := Kd.V_slice HO180.out
       subst eo21
       go_wp2_with (first | (go_at_call 10; (with_reducible refine (cantonref10_Right.calls kj5 _ _ t178 true _ ?side1 ?side2 A19.out).mono ?_); (case side1 => exact kC ((Kd.V_reads' HO180.out).2.2)); (case side2 => exact (Kd.V_reads' HO180.out).2.1); rintro e w22 ⟨rfl, hb⟩; have n0_ := Aside0.mk (Kd.V_below (by (with_reducible repeat (first | apply Kd.V_alloc | apply Kd.V_drewN | apply Kd.V_drew)); exact HO180.out) hb); have n1_ := Aside0.mk (Kd.R_below (kR HO183) hb); have n2_ := Aside0.mk (below_step (kZ HB) hb); clear HO180; clear HO183; clear HB; have HO180 := n0_; have HO183 := n1_; have HB := n2_; clear n0_ n1_ n2_; (try clear hb); (try clear hb2); (try clear hk); (try clear hi); obtain ⟨Ao23, co23, eo23⟩ := Kd.R_slice HO183.out; subst eo23))
       repeat (go_quiet (first | (go_at_call 10; (with_reducible refine (cantonref10_Right.calls kj5 _ _ t178 true _ ?side1 ?side2 A19.out).mono ?_); (case side1 => exact kC ((Kd.V_reads' HO180.out).2.2)); (case side2 => exact (Kd.V_reads' HO180.out).2.1); rintro e w22 ⟨rfl, hb⟩; have n0_ := Aside0.mk (Kd.V_below (by (with_reducible repeat (first | apply Kd.V_alloc | apply Kd.V_drewN | apply Kd.V_drew)); exact HO180.out) hb); have n1_ := Aside0.mk (Kd.R_below (kR HO183) hb); have n2_ := Aside0.mk (below_step (kZ HB) hb); clear HO180; clear HO183; clear HB; have HO180 := n0_; have HO183 := n1_; have HB := n2_; clear n0_ n1_ n2_; (try clear hb); (try clear hb2); (try clear hk); (try clear hi); obtain ⟨Ao23, co23, eo23⟩ := Kd.R_slice HO183.out; subst eo23)); try go_wp2_with (first | (go_at_call 10; (with_reducible refine (cantonref10_Right.calls kj5 _ _ t178 true _ ?side1 ?side2 A19.out).mono ?_); (case side1 => exact kC ((Kd.V_reads' HO180.out).2.2)); (case side2 => exact (Kd.V_reads' HO180.out).2.1); rintro e w22 ⟨rfl, hb⟩; have n0_ := Aside0.mk (Kd.V_below (by (with_reducible repeat (first | apply Kd.V_alloc | apply Kd.V_drewN | apply Kd.V_drew)); exact HO180.out) hb); have n1_ := Aside0.mk (Kd.R_below (kR HO183) hb); have n2_ := Aside0.mk (below_step (kZ HB) hb); clear HO180; clear HO183; clear HB; have HO180 := n0_; have HO183 := n1_; have HB := n2_; clear n0_ n1_ n2_; (try clear hb); (try clear hb2); (try clear hk); (try clear hi); obtain ⟨Ao23, co23, eo23⟩ := Kd.R_slice HO183.out; subst eo23)))
       go_meet
       case rel => exact ⟨_, (((t181.length : Int) != 0)), (by first | rfl | (simp; done) | (simp [*]; done)), H', ⟨by have := HJ5.out; first | omega | exact Nat.le_refl _⟩, ⟨by (with_reducible repeat (first | apply Kd.V_alloc | apply Kd.V_drewN | apply Kd.V_drew)); exact Kd.V_mono HO180.out (fun _ hk => trivial)⟩, ⟨kZ HB⟩⟩
      ·replace c20 := Bool.eq_false_iff.mpr c20
       subst c20
       have H1 : (cantonlaw10_LocksOne.j1 kj5 l0 a1 a2 l3 t175 t178 true) = some r := by rw [if_neg (show ¬ (false = true) by decide)] at H; exact H
       clear H
       have H := H1
       clear H1
       have H' := Aside0.mk H
       clear H
       obtain ⟨Ao24, co24, eo24⟩ := Kd.V_slice HO180.out
       subst eo24
       go_wp2_with (first | (go_at_call 10; (with_reducible refine (cantonref10_Right.calls kj5 _ _ t178 false _ ?side1 ?side2 A19.out).mono ?_); (case side1 => exact kC ((Kd.V_reads' HO180.out).2.2)); (case side2 => exact (Kd.V_reads' HO180.out).2.1); rintro e w25 ⟨rfl, hb⟩; have n0_ := Aside0.mk (Kd.V_below (by (with_reducible repeat (first | apply Kd.V_alloc | apply Kd.V_drewN | apply Kd.V_drew)); exact HO180.out) hb); have n1_ := Aside0.mk (Kd.R_below (kR HO183) hb); have n2_ := Aside0.mk (below_step (kZ HB) hb); clear HO180; clear HO183; clear HB; have HO180 := n0_; have HO183 := n1_; have HB := n2_; clear n0_ n1_ n2_; (try clear hb); (try clear hb2); (try clear hk); (try clear hi)))
       repeat (go_quiet (first | (go_at_call 10; (with_reducible refine (cantonref10_Right.calls kj5 _ _ t178 false _ ?side1 ?side2 A19.out).mono ?_); (case side1 => exact kC ((Kd.V_reads' HO180.out).2.2)); (case side2 => exact (Kd.V_reads' HO180.out).2.1); rintro e w25 ⟨rfl, hb⟩; have n0_ := Aside0.mk (Kd.V_below (by (with_reducible repeat (first | apply Kd.V_alloc | apply Kd.V_drewN | apply Kd.V_drew)); exact HO180.out) hb); have n1_ := Aside0.mk (Kd.R_below (kR HO183) hb); have n2_ := Aside0.mk (below_step (kZ HB) hb); clear HO180; clear HO183; clear HB; have HO180 := n0_; have HO183 := n1_; have HB := n2_; clear n0_ n1_ n2_; (try clear hb); (try clear hb2); (try clear hk); (try clear hi))); try go_wp2_with (first | (go_at_call 10; (with_reducible refine (cantonref10_Right.calls kj5 _ _ t178 false _ ?side1 ?side2 A19.out).mono ?_); (case side1 => exact kC ((Kd.V_reads' HO180.out).2.2)); (case side2 => exact (Kd.V_reads' HO180.out).2.1); rintro e w25 ⟨rfl, hb⟩; have n0_ := Aside0.mk (Kd.V_below (by (with_reducible repeat (first | apply Kd.V_alloc | apply Kd.V_drewN | apply Kd.V_drew)); exact HO180.out) hb); have n1_ := Aside0.mk (Kd.R_below (kR HO183) hb); have n2_ := Aside0.mk (below_step (kZ HB) hb); clear HO180; clear HO183; clear HB; have HO180 := n0_; have HO183 := n1_; have HB := n2_; clear n0_ n1_ n2_; (try clear hb); (try clear hb2); (try clear hk); (try clear hi))))
       go_meet
       case rel => exact ⟨_, (true), (by first | rfl | (simp; done) | (simp [*]; done)), H', ⟨by have := HJ5.out; first | omega | exact Nat.le_refl _⟩, ⟨by (with_reducible repeat (first | apply Kd.V_alloc | apply Kd.V_drewN | apply Kd.V_drew)); exact Kd.V_mono HO180.out (fun _ hk => trivial)⟩, ⟨kZ HB⟩⟩
     case rest =>
      clear HC17
      try clear c1
      try clear c2
      try clear p2
      try clear c3
      try clear c9
      try clear c14
      try clear c16
      try clear c20
      try clear p2
      obtain ⟨kq, x60_16, rfl, HA, HJ16, HO_10, HB⟩ := hcut
      cases kq with
      | zero => exact absurd HA.out (by simp [cantonlaw10_LocksOne.j1])
      | succ kj16 =>
       have H := HA.out
       clear HA
       simp only [cantonlaw10_LocksOne.j1] at H
       by_cases c26 : x60_16 = true
       ·subst c26
        have H1 : (some false) = some r := by rw [if_pos rfl] at H; exact H
        clear H
        have H := H1
        clear H1
        obtain rfl := Option.some.inj H
        go_wp2
        repeat (go_quiet (fail); try go_wp2)
        go_ret
        exact ⟨by first | rfl | (simp [errW_none, errW_some] <;> rfl) | (simp [*, errW_none, errW_some] <;> rfl), kZ HB⟩
       ·replace c26 := Bool.eq_false_iff.mpr c26
        subst c26
        have H1 : (cantonlaw10_LocksOne.l0 kj16 l0 a1 a2 l3 t175 t178 0) = some r := by rw [if_neg (show ¬ (false = true) by decide)] at H; exact H
        clear H
        have H := H1
        clear H1
        have H' := Aside0.mk H
        clear H
        go_wp2
        repeat (go_quiet (fail); try go_wp2)
        go_loopg [13] kj16 (fun kq v13 w' => ∃ (x13_3 : Int), v13 = .int .i64 x13_3 ∧ Aside0 (cantonlaw10_LocksOne.l0 kq l0 a1 a2 l3 t175 t178 x13_3 = some r) ∧ Aside0 (kq ≤ kj16) ∧ Aside0 (Kd.V k34 34 w' w.heap.size (fun _ => True) v179 t178) ∧ Aside0 (Below w.heap.size w w'))
        case atStart => exact ⟨(0), (by first | rfl | (simp; done) | (simp [*]; done)), H', ⟨Nat.le_refl _⟩, ⟨by (with_reducible repeat (first | apply Kd.V_alloc | apply Kd.V_drewN | apply Kd.V_drew)); exact HO_10.out⟩, ⟨kZ HB⟩⟩
        case round =>
         clear H'
         try clear c1
         try clear c2
         try clear p2
         try clear c3
         try clear c9
         try clear c14
         try clear c16
         try clear c20
         try clear c26
         try clear p2
         obtain ⟨x13_3, rfl, HA, HK3, HO_10, HB⟩ := hrel
         cases gk with
         | zero => exact absurd HA.out (by simp [cantonlaw10_LocksOne.l0])
         | succ k3 =>
          have H := HA.out
          clear HA
          simp only [cantonlaw10_LocksOne.l0] at H
          by_cases c27 : x13_3 < (l3.length : Int)
          ·rw [if_pos c27] at H
           have c27b0 : decide (x13_3 < (l3.length : Int)) = true := decide_eq_true c27
           clear c27
           by_cases c28 : 0 ≤ x13_3
           ·rw [if_pos c28] at H
            have c28b0 : decide (0 ≤ x13_3) = true := decide_eq_true c28
            clear c28
            replace H := Option.bind_eq_some_iff.mp H
            obtain ⟨⟨t188, t189⟩, A290, H⟩ := H
            replace H : (if t189 = true then (if t188 = a1 then (cantonlaw10_LocksOne.l0 k3 l0 a1 a2 l3 t175 t178 (wrap64 (x13_3 + 1))) else (some false)) else (some false)) = some r := H
            have A29 := Aside0.mk A290
            clear A290
            by_cases c30 : t189 = true
            ·subst c30
             have H1 : (if t188 = a1 then (cantonlaw10_LocksOne.l0 k3 l0 a1 a2 l3 t175 t178 (wrap64 (x13_3 + 1))) else (some false)) = some r := by rw [if_pos rfl] at H; exact H
             clear H
             have H := H1
             clear H1
             by_cases c31 : t188 = a1
             ·rw [if_pos c31] at H
              have c31b0 : (t188 == a1) = true := beq_iff_eq.mpr c31
              have c31b1 : (t188 != a1) = false := bne_eq_false_iff_eq.mpr c31
              clear c31
              have H' := Aside0.mk H
              clear H
              have p187 : 0 ≤ (x13_3 : Int) := of_decide_eq_true (by first | (with_reducible assumption) | assumption)
              have q187 : x13_3 < (l3.length : Int) := of_decide_eq_true (by first | (with_reducible assumption) | assumption)
              obtain ⟨ad187, e187, hx187_0⟩ := Kd.at_string HR3.out x13_3 p187 q187
              cases e187
              replace hx187_0 := (HB.out.cell (World.block_lt_of_cell? w _ hx187_0)).trans hx187_0
              replace p187 := eq_true p187
              replace q187 := eq_true q187
              obtain ⟨Ao32, co32, eo32⟩ := Kd.V_slice HO_10.out
              subst eo32
              go_wp2_with (first | (go_at_call 13; (with_reducible refine (locks_Held.calls _ _ t178 (rdOf ByteArray.empty l3 x13_3) t188 true _ ?side1 ?side2 A29.out).mono ?_); (case side1 => exact kC ((Kd.V_reads' HO_10.out).2.2)); (case side2 => exact (Kd.V_reads' HO_10.out).2.1); rintro e w33 ⟨rfl, hb⟩; have n0_ := Aside0.mk (Kd.V_below (by (with_reducible repeat (first | apply Kd.V_alloc | apply Kd.V_drewN | apply Kd.V_drew)); exact HO_10.out) hb); have n1_ := Aside0.mk (below_step (kZ HB) hb); clear HO_10; clear HB; have HO_10 := n0_; have HB := n1_; clear n0_ n1_; (try clear hb); (try clear hb2); (try clear hk); (try clear hi)))
              repeat (go_quiet (first | (go_at_call 13; (with_reducible refine (locks_Held.calls _ _ t178 (rdOf ByteArray.empty l3 x13_3) t188 true _ ?side1 ?side2 A29.out).mono ?_); (case side1 => exact kC ((Kd.V_reads' HO_10.out).2.2)); (case side2 => exact (Kd.V_reads' HO_10.out).2.1); rintro e w33 ⟨rfl, hb⟩; have n0_ := Aside0.mk (Kd.V_below (by (with_reducible repeat (first | apply Kd.V_alloc | apply Kd.V_drewN | apply Kd.V_drew)); exact HO_10.out) hb); have n1_ := Aside0.mk (below_step (kZ HB) hb); clear HO_10; clear HB; have HO_10 := n0_; have HB := n1_; clear n0_ n1_; (try clear hb); (try clear hb2); (try clear hk); (try clear hi))); try go_wp2_with (first | (go_at_call 13; (with_reducible refine (locks_Held.calls _ _ t178 (rdOf ByteArray.empty l3 x13_3) t188 true _ ?side1 ?side2 A29.out).mono ?_); (case side1 => exact kC ((Kd.V_reads' HO_10.out).2.2)); (case side2 => exact (Kd.V_reads' HO_10.out).2.1); rintro e w33 ⟨rfl, hb⟩; have n0_ := Aside0.mk (Kd.V_below (by (with_reducible repeat (first | apply Kd.V_alloc | apply Kd.V_drewN | apply Kd.V_drew)); exact HO_10.out) hb); have n1_ := Aside0.mk (below_step (kZ HB) hb); clear HO_10; clear HB; have HO_10 := n0_; have HB := n1_; clear n0_ n1_; (try clear hb); (try clear hb2); (try clear hk); (try clear hi))))
              go_roundg k3
              case measure => have := HJ5.out; have := HJ16.out; have := HK3.out; omega
              case rel => exact ⟨(wrap64 (x13_3 + 1)), (by first | rfl | (simp; done) | (simp [*]; done)), H', ⟨by have := HJ5.out; have := HJ16.out; have := HK3.out; omega⟩, ⟨by (with_reducible repeat (first | apply Kd.V_alloc | apply Kd.V_drewN | apply Kd.V_drew)); exact HO_10.out⟩, ⟨kZ HB⟩⟩
             ·rw [if_neg c31] at H
              have c31b0 : (t188 == a1) = false := beq_eq_false_iff_ne.mpr c31
              have c31b1 : (t188 != a1) = true := bne_iff_ne.mpr c31
              obtain rfl := Option.some.inj H
              have p187 : 0 ≤ (x13_3 : Int) := of_decide_eq_true (by first | (with_reducible assumption) | assumption)
              have q187 : x13_3 < (l3.length : Int) := of_decide_eq_true (by first | (with_reducible assumption) | assumption)
              obtain ⟨ad187, e187, hx187_0⟩ := Kd.at_string HR3.out x13_3 p187 q187
              cases e187
              replace hx187_0 := (HB.out.cell (World.block_lt_of_cell? w _ hx187_0)).trans hx187_0
              replace p187 := eq_true p187
              replace q187 := eq_true q187
              obtain ⟨Ao34, co34, eo34⟩ := Kd.V_slice HO_10.out
              subst eo34
              go_wp2_with (first | (go_at_call 13; (with_reducible refine (locks_Held.calls _ _ t178 (rdOf ByteArray.empty l3 x13_3) t188 true _ ?side1 ?side2 A29.out).mono ?_); (case side1 => exact kC ((Kd.V_reads' HO_10.out).2.2)); (case side2 => exact (Kd.V_reads' HO_10.out).2.1); rintro e w35 ⟨rfl, hb⟩; have n0_ := Aside0.mk (Kd.V_below (by (with_reducible repeat (first | apply Kd.V_alloc | apply Kd.V_drewN | apply Kd.V_drew)); exact HO_10.out) hb); have n1_ := Aside0.mk (below_step (kZ HB) hb); clear HO_10; clear HB; have HO_10 := n0_; have HB := n1_; clear n0_ n1_; (try clear hb); (try clear hb2); (try clear hk); (try clear hi)))
              repeat (go_quiet (first | (go_at_call 13; (with_reducible refine (locks_Held.calls _ _ t178 (rdOf ByteArray.empty l3 x13_3) t188 true _ ?side1 ?side2 A29.out).mono ?_); (case side1 => exact kC ((Kd.V_reads' HO_10.out).2.2)); (case side2 => exact (Kd.V_reads' HO_10.out).2.1); rintro e w35 ⟨rfl, hb⟩; have n0_ := Aside0.mk (Kd.V_below (by (with_reducible repeat (first | apply Kd.V_alloc | apply Kd.V_drewN | apply Kd.V_drew)); exact HO_10.out) hb); have n1_ := Aside0.mk (below_step (kZ HB) hb); clear HO_10; clear HB; have HO_10 := n0_; have HB := n1_; clear n0_ n1_; (try clear hb); (try clear hb2); (try clear hk); (try clear hi))); try go_wp2_with (first | (go_at_call 13; (with_reducible refine (locks_Held.calls _ _ t178 (rdOf ByteArray.empty l3 x13_3) t188 true _ ?side1 ?side2 A29.out).mono ?_); (case side1 => exact kC ((Kd.V_reads' HO_10.out).2.2)); (case side2 => exact (Kd.V_reads' HO_10.out).2.1); rintro e w35 ⟨rfl, hb⟩; have n0_ := Aside0.mk (Kd.V_below (by (with_reducible repeat (first | apply Kd.V_alloc | apply Kd.V_drewN | apply Kd.V_drew)); exact HO_10.out) hb); have n1_ := Aside0.mk (below_step (kZ HB) hb); clear HO_10; clear HB; have HO_10 := n0_; have HB := n1_; clear n0_ n1_; (try clear hb); (try clear hb2); (try clear hk); (try clear hi))))
              go_ret
              exact ⟨by first | rfl | (simp [errW_none, errW_some] <;> rfl) | (simp [*, errW_none, errW_some] <;> rfl), kZ HB⟩
            ·replace c30 := Bool.eq_false_iff.mpr c30
             subst c30
             have H1 : (some false) = some r := by rw [if_neg (show ¬ (false = true) by decide)] at H; exact H
             clear H
             have H := H1
             clear H1
             obtain rfl := Option.some.inj H
             have p187 : 0 ≤ (x13_3 : Int) := of_decide_eq_true (by first | (with_reducible assumption) | assumption)
             have q187 : x13_3 < (l3.length : Int) := of_decide_eq_true (by first | (with_reducible assumption) | assumption)
             obtain ⟨ad187, e187, hx187_0⟩ := Kd.at_string HR3.out x13_3 p187 q187
             cases e187
             replace hx187_0 := (HB.out.cell (World.block_lt_of_cell? w _ hx187_0)).trans hx187_0
             replace p187 := eq_true p187
             replace q187 := eq_true q187
             obtain ⟨Ao36, co36, eo36⟩ := Kd.V_slice HO_10.out
             subst eo36
             go_wp2_with (first | (go_at_call 13; (with_reducible refine (locks_Held.calls _ _ t178 (rdOf ByteArray.empty l3 x13_3) t188 false _ ?side1 ?side2 A29.out).mono ?_); (case side1 => exact kC ((Kd.V_reads' HO_10.out).2.2)); (case side2 => exact (Kd.V_reads' HO_10.out).2.1); rintro e w37 ⟨rfl, hb⟩; have n0_ := Aside0.mk (Kd.V_below (by (with_reducible repeat (first | apply Kd.V_alloc | apply Kd.V_drewN | apply Kd.V_drew)); exact HO_10.out) hb); have n1_ := Aside0.mk (below_step (kZ HB) hb); clear HO_10; clear HB; have HO_10 := n0_; have HB := n1_; clear n0_ n1_; (try clear hb); (try clear hb2); (try clear hk); (try clear hi)))
             repeat (go_quiet (first | (go_at_call 13; (with_reducible refine (locks_Held.calls _ _ t178 (rdOf ByteArray.empty l3 x13_3) t188 false _ ?side1 ?side2 A29.out).mono ?_); (case side1 => exact kC ((Kd.V_reads' HO_10.out).2.2)); (case side2 => exact (Kd.V_reads' HO_10.out).2.1); rintro e w37 ⟨rfl, hb⟩; have n0_ := Aside0.mk (Kd.V_below (by (with_reducible repeat (first | apply Kd.V_alloc | apply Kd.V_drewN | apply Kd.V_drew)); exact HO_10.out) hb); have n1_ := Aside0.mk (below_step (kZ HB) hb); clear HO_10; clear HB; have HO_10 := n0_; have HB := n1_; clear n0_ n1_; (try clear hb); (try clear hb2); (try clear hk); (try clear hi))); try go_wp2_with (first | (go_at_call 13; (with_reducible refine (locks_Held.calls _ _ t178 (rdOf ByteArray.empty l3 x13_3) t188 false _ ?side1 ?side2 A29.out).mono ?_); (case side1 => exact kC ((Kd.V_reads' HO_10.out).2.2)); (case side2 => exact (Kd.V_reads' HO_10.out).2.1); rintro e w37 ⟨rfl, hb⟩; have n0_ := Aside0.mk (Kd.V_below (by (with_reducible repeat (first | apply Kd.V_alloc | apply Kd.V_drewN | apply Kd.V_drew)); exact HO_10.out) hb); have n1_ := Aside0.mk (below_step (kZ HB) hb); clear HO_10; clear HB; have HO_10 := n0_; have HB := n1_; clear n0_ n1_; (try clear hb); (try clear hb2); (try clear hk); (try clear hi))))
             go_ret
             exact ⟨by first | rfl | (simp [errW_none, errW_some] <;> rfl) | (simp [*, errW_none, errW_some] <;> rfl), kZ HB⟩
           ·rw [if_neg c28] at H
            exact absurd H (by simp)
          ·rw [if_neg c27] at H
           have c27b0 : decide (x13_3 < (l3.length : Int)) = false := decide_eq_false c27
           clear c27
           have H' := Aside0.mk H
           clear H
           go_wp2
           repeat (go_quiet (fail); try go_wp2)
           go_loopg [16] k3 (fun kq v16 w' => ∃ (x16_4 : Int), v16 = .int .i64 x16_4 ∧ Aside0 (cantonlaw10_LocksOne.l1 kq l0 a1 a2 l3 t175 t178 x16_4 = some r) ∧ Aside0 (kq ≤ k3) ∧ Aside0 (Kd.V k34 34 w' w.heap.size (fun _ => True) v179 t178) ∧ Aside0 (Below w.heap.size w w'))
           case atStart => exact ⟨(0), (by first | rfl | (simp; done) | (simp [*]; done)), H', ⟨Nat.le_refl _⟩, ⟨by (with_reducible repeat (first | apply Kd.V_alloc | apply Kd.V_drewN | apply Kd.V_drew)); exact HO_10.out⟩, ⟨kZ HB⟩⟩
           case round =>
            clear H'
            try clear c1
            try clear p1
            try clear q1
            try clear hx1
            try clear c2
            try clear p2
            try clear c3
            try clear p6
            try clear c9
            try clear c14
            try clear c16
            try clear p18
            try clear q18
            try clear hx18
            try clear c20
            try clear c26
            try clear c27
            try clear c27b0
            try clear c28
            try clear c28b0
            try clear c30
            try clear c31
            try clear c31b0
            try clear c31b1
            try clear hx187_0
            try clear p187
            try clear p2
            try clear q187
            obtain ⟨x16_4, rfl, HA, HK4, HO_10, HB⟩ := hrel
            cases gk with
            | zero => exact absurd HA.out (by simp [cantonlaw10_LocksOne.l1])
            | succ k4 =>
             have H := HA.out
             clear HA
             simp only [cantonlaw10_LocksOne.l1] at H
             by_cases c38 : x16_4 < (t178.length : Int)
             ·rw [if_pos c38] at H
              have c38b0 : decide (x16_4 < (t178.length : Int)) = true := decide_eq_true c38
              clear c38
              by_cases c39 : 0 ≤ x16_4
              ·rw [if_pos c39] at H
               have c39b0 : decide (0 ≤ x16_4) = true := decide_eq_true c39
               clear c39
               replace H := Option.bind_eq_some_iff.mp H
               obtain ⟨⟨t191, t192⟩, A400, H⟩ := H
               replace H : (cantonlaw10_LocksOne.l2 k4 l0 a1 a2 l3 t175 t178 x16_4 t191 t192 false 0) = some r := H
               have A40 := Aside0.mk A400
               clear A400
               have H' := Aside0.mk H
               clear H
               obtain ⟨Ao41, co41, eo41⟩ := Kd.V_slice HO_10.out
               subst eo41
               have p190 : 0 ≤ (x16_4 : Int) := of_decide_eq_true (by first | (with_reducible assumption) | assumption)
               have q190 : x16_4 < (t178.length : Int) := of_decide_eq_true (by first | (with_reducible assumption) | assumption)
               obtain ⟨ad190, e190, hx190_0, hx190_1, hx190_2⟩ := at_T34 (Kd.V_reads' HO_10.out).2.2 x16_4 p190 q190
               cases e190
               replace p190 := eq_true p190
               replace q190 := eq_true q190
               go_wp2_with (first | (go_at_call 13; (with_reducible refine (locks_Held.calls _ _ l0 ((rd_T34 t178 x16_4).f0) t191 t192 _ ?side1 ?side2 A40.out).mono ?_); (case side1 => exact kC ((Kd.C_below HR0.out HB.out))); (case side2 => exact HC0.out); rintro e w42 ⟨rfl, hb⟩; have n0_ := Aside0.mk (Kd.V_below (by (with_reducible repeat (first | apply Kd.V_alloc | apply Kd.V_drewN | apply Kd.V_drew)); exact HO_10.out) hb); have n1_ := Aside0.mk (below_step (kZ HB) hb); clear HO_10; clear HB; have HO_10 := n0_; have HB := n1_; clear n0_ n1_; (try clear hb); (try clear hb2); (try clear hk); (try clear hi)))
               repeat (go_quiet (first | (go_at_call 13; (with_reducible refine (locks_Held.calls _ _ l0 ((rd_T34 t178 x16_4).f0) t191 t192 _ ?side1 ?side2 A40.out).mono ?_); (case side1 => exact kC ((Kd.C_below HR0.out HB.out))); (case side2 => exact HC0.out); rintro e w42 ⟨rfl, hb⟩; have n0_ := Aside0.mk (Kd.V_below (by (with_reducible repeat (first | apply Kd.V_alloc | apply Kd.V_drewN | apply Kd.V_drew)); exact HO_10.out) hb); have n1_ := Aside0.mk (below_step (kZ HB) hb); clear HO_10; clear HB; have HO_10 := n0_; have HB := n1_; clear n0_ n1_; (try clear hb); (try clear hb2); (try clear hk); (try clear hi))); try go_wp2_with (first | (go_at_call 13; (with_reducible refine (locks_Held.calls _ _ l0 ((rd_T34 t178 x16_4).f0) t191 t192 _ ?side1 ?side2 A40.out).mono ?_); (case side1 => exact kC ((Kd.C_below HR0.out HB.out))); (case side2 => exact HC0.out); rintro e w42 ⟨rfl, hb⟩; have n0_ := Aside0.mk (Kd.V_below (by (with_reducible repeat (first | apply Kd.V_alloc | apply Kd.V_drewN | apply Kd.V_drew)); exact HO_10.out) hb); have n1_ := Aside0.mk (below_step (kZ HB) hb); clear HO_10; clear HB; have HO_10 := n0_; have HB := n1_; clear n0_ n1_; (try clear hb); (try clear hb2); (try clear hk); (try clear hi))))
               go_loopg [19, 20] k4 (fun kq v19 v20 w' => ∃ (x19_5 : Bool) (x20_5 : Int), v19 = .bool x19_5 ∧ v20 = .int .i64 x20_5 ∧ Aside0 (cantonlaw10_LocksOne.l2 kq l0 a1 a2 l3 t175 t178 x16_4 t191 t192 x19_5 x20_5 = some r) ∧ Aside0 (kq ≤ k4) ∧ Aside0 (Kd.V k34 34 w' w.heap.size (fun _ => True) (.slice (some ad190) t178.length co41) t178) ∧ Aside0 (Below w.heap.size w w'))
               case atStart => exact ⟨(false), (0), (by first | rfl | (simp; done) | (simp [*]; done)), (by first | rfl | (simp; done) | (simp [*]; done)), H', ⟨Nat.le_refl _⟩, ⟨by (with_reducible repeat (first | apply Kd.V_alloc | apply Kd.V_drewN | apply Kd.V_drew)); exact HO_10.out⟩, ⟨kZ HB⟩⟩
               case round =>
                clear H'
                try clear c1
                try clear p1
                try clear q1
                try clear hx1
                try clear c2
                try clear p2
                try clear c3
                try clear p6
                try clear c9
                try clear c14
                try clear c16
                try clear p18
                try clear q18
                try clear hx18
                try clear p19
                try clear q19
                try clear hx19
                try clear c20
                try clear c26
                try clear c27
                try clear c27b0
                try clear c28
                try clear c28b0
                try clear c30
                try clear c31
                try clear c31b0
                try clear c31b1
                try clear c38
                try clear c38b0
                try clear c39
                try clear c39b0
                try clear hx187_0
                try clear hx190_0
                try clear hx190_1
                try clear hx190_2
                try clear p1
                try clear p18
                try clear p187
                try clear p190
                try clear p2
                try clear p6
                try clear q1
                try clear q18
                try clear q187
                try clear q190
                obtain ⟨x19_5, x20_5, rfl, rfl, HA, HK5, HO_10, HB⟩ := hrel
                cases gk with
                | zero => exact absurd HA.out (by simp [cantonlaw10_LocksOne.l2])
                | succ k5 =>
                 have H := HA.out
                 clear HA
                 simp only [cantonlaw10_LocksOne.l2] at H
                 by_cases c43 : x20_5 < (l3.length : Int)
                 ·rw [if_pos c43] at H
                  have c43b0 : decide (x20_5 < (l3.length : Int)) = true := decide_eq_true c43
                  clear c43
                  by_cases c44 : x19_5 = true
                  ·subst c44
                   have H1 : (cantonlaw10_LocksOne.l2 k5 l0 a1 a2 l3 t175 t178 x16_4 t191 t192 true (wrap64 (x20_5 + 1))) = some r := by rw [if_pos rfl] at H; exact H
                   clear H
                   have H := H1
                   clear H1
                   have H' := Aside0.mk H
                   clear H
                   go_wp2
                   repeat (go_quiet (fail); try go_wp2)
                   go_roundg k5
                   case measure => have := HJ5.out; have := HJ16.out; have := HK3.out; have := HK4.out; have := HK5.out; omega
                   case rel => exact ⟨(true), (wrap64 (x20_5 + 1)), (by first | rfl | (simp; done) | (simp [*]; done)), (by first | rfl | (simp; done) | (simp [*]; done)), H', ⟨by have := HJ5.out; have := HJ16.out; have := HK3.out; have := HK4.out; have := HK5.out; omega⟩, ⟨by (with_reducible repeat (first | apply Kd.V_alloc | apply Kd.V_drewN | apply Kd.V_drew)); exact HO_10.out⟩, ⟨kZ HB⟩⟩
                  ·replace c44 := Bool.eq_false_iff.mpr c44
                   subst c44
                   have H1 : (if 0 ≤ x20_5 then (if 0 ≤ x16_4 then (if x16_4 < (t178.length : Int) then (cantonlaw10_LocksOne.l2 k5 l0 a1 a2 l3 t175 t178 x16_4 t191 t192 ((rdOf ByteArray.empty l3 x20_5).toList == ((rd_T34 t178 x16_4).f0).toList) (wrap64 (x20_5 + 1))) else (none)) else (none)) else (none)) = some r := by rw [if_neg (show ¬ (false = true) by decide)] at H; exact H
                   clear H
                   have H := H1
                   clear H1
                   by_cases c45 : 0 ≤ x20_5
                   ·rw [if_pos c45] at H
                    have c45b0 : decide (0 ≤ x20_5) = true := decide_eq_true c45
                    clear c45
                    by_cases c46 : 0 ≤ x16_4
                    ·rw [if_pos c46] at H
                     have c46b0 : decide (0 ≤ x16_4) = true := decide_eq_true c46
                     clear c46
                     by_cases c47 : x16_4 < (t178.length : Int)
                     ·rw [if_pos c47] at H
                      have c47b0 : decide (x16_4 < (t178.length : Int)) = true := decide_eq_true c47
                      clear c47
                      have H' := Aside0.mk H
                      clear H
                      have p193 : 0 ≤ (x20_5 : Int) := of_decide_eq_true (by first | (with_reducible assumption) | assumption)
                      have q193 : x20_5 < (l3.length : Int) := of_decide_eq_true (by first | (with_reducible assumption) | assumption)
                      obtain ⟨ad193, e193, hx193_0⟩ := Kd.at_string HR3.out x20_5 p193 q193
                      cases e193
                      replace hx193_0 := (HB.out.cell (World.block_lt_of_cell? w _ hx193_0)).trans hx193_0
                      replace p193 := eq_true p193
                      replace q193 := eq_true q193
                      have p194 : 0 ≤ (x16_4 : Int) := of_decide_eq_true (by first | (with_reducible assumption) | assumption)
                      have q194 : x16_4 < (t178.length : Int) := of_decide_eq_true (by first | (with_reducible assumption) | assumption)
                      obtain ⟨ad194, e194, hx194_0, hx194_1, hx194_2⟩ := at_T34 (Kd.V_reads' HO_10.out).2.2 x16_4 p194 q194
                      obtain rfl : ad190 = ad194 := (by injection e194)
                      replace p194 := eq_true p194
                      replace q194 := eq_true q194
                      go_wp2
                      repeat (go_quiet (fail); try go_wp2)
                      go_roundg k5
                      case measure => have := HJ5.out; have := HJ16.out; have := HK3.out; have := HK4.out; have := HK5.out; omega
                      case rel => exact ⟨(((rdOf ByteArray.empty l3 x20_5).toList == ((rd_T34 t178 x16_4).f0).toList)), (wrap64 (x20_5 + 1)), (by first | rfl | (simp; done) | (simp [*]; done)), (by first | rfl | (simp; done) | (simp [*]; done)), H', ⟨by have := HJ5.out; have := HJ16.out; have := HK3.out; have := HK4.out; have := HK5.out; omega⟩, ⟨by (with_reducible repeat (first | apply Kd.V_alloc | apply Kd.V_drewN | apply Kd.V_drew)); exact HO_10.out⟩, ⟨kZ HB⟩⟩
                     ·rw [if_neg c47] at H
                      exact absurd H (by simp)
                    ·rw [if_neg c46] at H
                     exact absurd H (by simp)
                   ·rw [if_neg c45] at H
                    exact absurd H (by simp)
                 ·rw [if_neg c43] at H
                  have c43b0 : decide (x20_5 < (l3.length : Int)) = false := decide_eq_false c43
                  clear c43
                  by_cases c48 : t192 = true
                  ·subst c48
                   have H1 : (if 0 ≤ x16_4 then (if x16_4 < (t178.length : Int) then (if t191 = ((rd_T34 t178 x16_4).f1) then (cantonlaw10_LocksOne.l1 k5 l0 a1 a2 l3 t175 t178 (wrap64 (x16_4 + 1))) else (some false)) else (none)) else (none)) = some r := by rw [if_pos rfl] at H; exact H
                   clear H
                   have H := H1
                   clear H1
                   by_cases c49 : 0 ≤ x16_4
                   ·rw [if_pos c49] at H
                    have c49b0 : decide (0 ≤ x16_4) = true := decide_eq_true c49
                    clear c49
                    by_cases c50 : x16_4 < (t178.length : Int)
                    ·rw [if_pos c50] at H
                     have c50b0 : decide (x16_4 < (t178.length : Int)) = true := decide_eq_true c50
                     clear c50
                     by_cases c51 : t191 = ((rd_T34 t178 x16_4).f1)
                     ·rw [if_pos c51] at H
                      have c51b0 : (t191 == ((rd_T34 t178 x16_4).f1)) = true := beq_iff_eq.mpr c51
                      have c51b1 : (t191 != ((rd_T34 t178 x16_4).f1)) = false := bne_eq_false_iff_eq.mpr c51
                      clear c51
                      have H' := Aside0.mk H
                      clear H
                      have p195 : 0 ≤ (x16_4 : Int) := of_decide_eq_true (by first | (with_reducible assumption) | assumption)
                      have q195 : x16_4 < (t178.length : Int) := of_decide_eq_true (by first | (with_reducible assumption) | assumption)
                      obtain ⟨ad195, e195, hx195_0, hx195_1, hx195_2⟩ := at_T34 (Kd.V_reads' HO_10.out).2.2 x16_4 p195 q195
                      obtain rfl : ad190 = ad195 := (by injection e195)
                      replace p195 := eq_true p195
                      replace q195 := eq_true q195
                      go_wp2
                      repeat (go_quiet (fail); try go_wp2)
                      go_roundg k5
                      case measure => have := HJ5.out; have := HJ16.out; have := HK3.out; have := HK4.out; have := HK5.out; omega
                      case rel => exact ⟨(wrap64 (x16_4 + 1)), (by first | rfl | (simp; done) | (simp [*]; done)), H', ⟨by have := HJ5.out; have := HJ16.out; have := HK3.out; have := HK4.out; have := HK5.out; omega⟩, ⟨by (with_reducible repeat (first | apply Kd.V_alloc | apply Kd.V_drewN | apply Kd.V_drew)); exact HO_10.out⟩, ⟨kZ HB⟩⟩
                     ·rw [if_neg c51] at H
                      have c51b0 : (t191 == ((rd_T34 t178 x16_4).f1)) = false := beq_eq_false_iff_ne.mpr c51
                      have c51b1 : (t191 != ((rd_T34 t178 x16_4).f1)) = true := bne_iff_ne.mpr c51
                      obtain rfl := Option.some.inj H
                      have p195 : 0 ≤ (x16_4 : Int) := of_decide_eq_true (by first | (with_reducible assumption) | assumption)
                      have q195 : x16_4 < (t178.length : Int) := of_decide_eq_true (by first | (with_reducible assumption) | assumption)
                      obtain ⟨ad195, e195, hx195_0, hx195_1, hx195_2⟩ := at_T34 (Kd.V_reads' HO_10.out).2.2 x16_4 p195 q195
                      obtain rfl : ad190 = ad195 := (by injection e195)
                      replace p195 := eq_true p195
                      replace q195 := eq_true q195
                      go_wp2
                      repeat (go_quiet (fail); try go_wp2)
                      go_ret
                      exact ⟨by first | rfl | (simp [errW_none, errW_some] <;> rfl) | (simp [*, errW_none, errW_some] <;> rfl), kZ HB⟩
                    ·rw [if_neg c50] at H
                     exact absurd H (by simp)
                   ·rw [if_neg c49] at H
                    exact absurd H (by simp)
                  ·replace c48 := Bool.eq_false_iff.mpr c48
                   subst c48
                   have H1 : (if x19_5 = true then (if 0 ≤ x16_4 then (if x16_4 < (t178.length : Int) then (if ((rd_T34 t178 x16_4).f1) = a1 then (if ((rd_T34 t178 x16_4).f2) = a2 then (cantonlaw10_LocksOne.l1 k5 l0 a1 a2 l3 t175 t178 (wrap64 (x16_4 + 1))) else (some false)) else (some false)) else (none)) else (none)) else (some false)) = some r := by rw [if_neg (show ¬ (false = true) by decide)] at H; exact H
                   clear H
                   have H := H1
                   clear H1
                   by_cases c52 : x19_5 = true
                   ·subst c52
                    have H1 : (if 0 ≤ x16_4 then (if x16_4 < (t178.length : Int) then (if ((rd_T34 t178 x16_4).f1) = a1 then (if ((rd_T34 t178 x16_4).f2) = a2 then (cantonlaw10_LocksOne.l1 k5 l0 a1 a2 l3 t175 t178 (wrap64 (x16_4 + 1))) else (some false)) else (some false)) else (none)) else (none)) = some r := by rw [if_pos rfl] at H; exact H
                    clear H
                    have H := H1
                    clear H1
                    by_cases c53 : 0 ≤ x16_4
                    ·rw [if_pos c53] at H
                     have c53b0 : decide (0 ≤ x16_4) = true := decide_eq_true c53
                     clear c53
                     by_cases c54 : x16_4 < (t178.length : Int)
                     ·rw [if_pos c54] at H
                      have c54b0 : decide (x16_4 < (t178.length : Int)) = true := decide_eq_true c54
                      clear c54
                      by_cases c55 : ((rd_T34 t178 x16_4).f1) = a1
                      ·rw [if_pos c55] at H
                       have c55b0 : (((rd_T34 t178 x16_4).f1) == a1) = true := beq_iff_eq.mpr c55
                       have c55b1 : (((rd_T34 t178 x16_4).f1) != a1) = false := bne_eq_false_iff_eq.mpr c55
                       clear c55
                       by_cases c56 : ((rd_T34 t178 x16_4).f2) = a2
                       ·rw [if_pos c56] at H
                        have c56b0 : (((rd_T34 t178 x16_4).f2) == a2) = true := beq_iff_eq.mpr c56
                        have c56b1 : (((rd_T34 t178 x16_4).f2) != a2) = false := bne_eq_false_iff_eq.mpr c56
                        clear c56
                        have H' := Aside0.mk H
                        clear H
                        have p196 : 0 ≤ (x16_4 : Int) := of_decide_eq_true (by first | (with_reducible assumption) | assumption)
                        have q196 : x16_4 < (t178.length : Int) := of_decide_eq_true (by first | (with_reducible assumption) | assumption)
                        obtain ⟨ad196, e196, hx196_0, hx196_1, hx196_2⟩ := at_T34 (Kd.V_reads' HO_10.out).2.2 x16_4 p196 q196
                        obtain rfl : ad190 = ad196 := (by injection e196)
                        replace p196 := eq_true p196
                        replace q196 := eq_true q196
                        have p197 : 0 ≤ (x16_4 : Int) := of_decide_eq_true (by first | (with_reducible assumption) | assumption)
                        have q197 : x16_4 < (t178.length : Int) := of_decide_eq_true (by first | (with_reducible assumption) | assumption)
                        obtain ⟨ad197, e197, hx197_0, hx197_1, hx197_2⟩ := at_T34 (Kd.V_reads' HO_10.out).2.2 x16_4 p197 q197
                        obtain rfl : ad190 = ad197 := (by injection e197)
                        replace p197 := eq_true p197
                        replace q197 := eq_true q197
                        go_wp2
                        repeat (go_quiet (fail); try go_wp2)
                        go_roundg k5
                        case measure => have := HJ5.out; have := HJ16.out; have := HK3.out; have := HK4.out; have := HK5.out; omega
                        case rel => exact ⟨(wrap64 (x16_4 + 1)), (by first | rfl | (simp; done) | (simp [*]; done)), H', ⟨by have := HJ5.out; have := HJ16.out; have := HK3.out; have := HK4.out; have := HK5.out; omega⟩, ⟨by (with_reducible repeat (first | apply Kd.V_alloc | apply Kd.V_drewN | apply Kd.V_drew)); exact HO_10.out⟩, ⟨kZ HB⟩⟩
                       ·rw [if_neg c56] at H
                        have c56b0 : (((rd_T34 t178 x16_4).f2) == a2) = false := beq_eq_false_iff_ne.mpr c56
                        have c56b1 : (((rd_T34 t178 x16_4).f2) != a2) = true := bne_iff_ne.mpr c56
                        obtain rfl := Option.some.inj H
                        have p196 : 0 ≤ (x16_4 : Int) := of_decide_eq_true (by first | (with_reducible assumption) | assumption)
                        have q196 : x16_4 < (t178.length : Int) := of_decide_eq_true (by first | (with_reducible assumption) | assumption)
                        obtain ⟨ad196, e196, hx196_0, hx196_1, hx196_2⟩ := at_T34 (Kd.V_reads' HO_10.out).2.2 x16_4 p196 q196
                        obtain rfl : ad190 = ad196 := (by injection e196)
                        replace p196 := eq_true p196
                        replace q196 := eq_true q196
                        have p197 : 0 ≤ (x16_4 : Int) := of_decide_eq_true (by first | (with_reducible assumption) | assumption)
                        have q197 : x16_4 < (t178.length : Int) := of_decide_eq_true (by first | (with_reducible assumption) | assumption)
                        obtain ⟨ad197, e197, hx197_0, hx197_1, hx197_2⟩ := at_T34 (Kd.V_reads' HO_10.out).2.2 x16_4 p197 q197
                        obtain rfl : ad190 = ad197 := (by injection e197)
                        replace p197 := eq_true p197
                        replace q197 := eq_true q197
                        go_wp2
                        repeat (go_quiet (fail); try go_wp2)
                        go_ret
                        exact ⟨by first | rfl | (simp [errW_none, errW_some] <;> rfl) | (simp [*, errW_none, errW_some] <;> rfl), kZ HB⟩
                      ·rw [if_neg c55] at H
                       have c55b0 : (((rd_T34 t178 x16_4).f1) == a1) = false := beq_eq_false_iff_ne.mpr c55
                       have c55b1 : (((rd_T34 t178 x16_4).f1) != a1) = true := bne_iff_ne.mpr c55
                       obtain rfl := Option.some.inj H
                       have p196 : 0 ≤ (x16_4 : Int) := of_decide_eq_true (by first | (with_reducible assumption) | assumption)
                       have q196 : x16_4 < (t178.length : Int) := of_decide_eq_true (by first | (with_reducible assumption) | assumption)
                       obtain ⟨ad196, e196, hx196_0, hx196_1, hx196_2⟩ := at_T34 (Kd.V_reads' HO_10.out).2.2 x16_4 p196 q196
                       obtain rfl : ad190 = ad196 := (by injection e196)
                       replace p196 := eq_true p196
                       replace q196 := eq_true q196
                       go_wp2
                       repeat (go_quiet (fail); try go_wp2)
                       go_ret
                       exact ⟨by first | rfl | (simp [errW_none, errW_some] <;> rfl) | (simp [*, errW_none, errW_some] <;> rfl), kZ HB⟩
                     ·rw [if_neg c54] at H
                      exact absurd H (by simp)
                    ·rw [if_neg c53] at H
                     exact absurd H (by simp)
                   ·replace c52 := Bool.eq_false_iff.mpr c52
                    subst c52
                    have H1 : (some false) = some r := by rw [if_neg (show ¬ (false = true) by decide)] at H; exact H
                    clear H
                    have H := H1
                    clear H1
                    obtain rfl := Option.some.inj H
                    go_wp2
                    repeat (go_quiet (fail); try go_wp2)
                    go_ret
                    exact ⟨by first | rfl | (simp [errW_none, errW_some] <;> rfl) | (simp [*, errW_none, errW_some] <;> rfl), kZ HB⟩
              ·rw [if_neg c39] at H
               exact absurd H (by simp)
             ·rw [if_neg c38] at H
              have c38b0 : decide (x16_4 < (t178.length : Int)) = false := decide_eq_false c38
              clear c38
              by_cases c57 : t175 = true
              ·subst c57
               have H1 : (some (decide ((t178.length : Int) ≥ (l0.length : Int)))) = some r := by rw [if_pos rfl] at H; exact H
               clear H
               have H := H1
               clear H1
               obtain rfl := Option.some.inj H
               obtain ⟨Ao58, co58, eo58⟩ := Kd.V_slice HO_10.out
               subst eo58
               go_wp2
               repeat (go_quiet (fail); try go_wp2)
               go_ret
               exact ⟨by first | rfl | (simp [errW_none, errW_some] <;> rfl) | (simp [*, errW_none, errW_some] <;> rfl), kZ HB⟩
              ·replace c57 := Bool.eq_false_iff.mpr c57
               subst c57
               have H1 : (some false) = some r := by rw [if_neg (show ¬ (false = true) by decide)] at H; exact H
               clear H
               have H := H1
               clear H1
               obtain rfl := Option.some.inj H
               obtain ⟨Ao59, co59, eo59⟩ := Kd.V_slice HO_10.out
               subst eo59
               go_wp2
               repeat (go_quiet (fail); try go_wp2)
               go_ret
               exact ⟨by first | rfl | (simp [errW_none, errW_some] <;> rfl) | (simp [*, errW_none, errW_some] <;> rfl), kZ HB⟩
    ·replace c16 := Bool.eq_false_iff.mpr c16
     subst c16
     have H1 : (if t175 = true then (if (t178.length : Int) = 0 then (some true) else ((cantonref10_Same.f kj5 t178 l0).bind fun t185 => (some t185))) else (some false)) = some r := by rw [if_neg (show ¬ (false = true) by decide)] at H; exact H
     clear H
     have H := H1
     clear H1
     by_cases c60 : t175 = true
     ·subst c60
      have H1 : (if (t178.length : Int) = 0 then (some true) else ((cantonref10_Same.f kj5 t178 l0).bind fun t185 => (some t185))) = some r := by rw [if_pos rfl] at H; exact H
      clear H
      have H := H1
      clear H1
      by_cases c61 : (t178.length : Int) = 0
      ·rw [if_pos c61] at H
       have c61b0 : ((t178.length : Int) == 0) = true := beq_iff_eq.mpr c61
       have c61b1 : ((t178.length : Int) != 0) = false := bne_eq_false_iff_eq.mpr c61
       clear c61
       obtain rfl := Option.some.inj H
       go_wp2_with (first | (go_at_call 11; (with_reducible refine (locks_Take.calls (fun k_ => k_ < w.heap.size) _ _ l0 a1 a2 _ _ l3 t178 t181 false _ ?side1 ?side2 ?side3 A15.out).mono ?_); (case side1 => exact Kd.V_mk HC0.out (Kd.F_below (Kd.C_F k34_heap HR0.out) (kZ HB))); (case side2 => exact kC ((Kd.C_below HR3.out HB.out))); (case side3 => exact HC3.out); rintro e w62 ⟨v179, v182, rfl, ho0, ho1, hb⟩; have n0_ := Aside0.mk (Kd.V_lower (Kd.V_mono (ok' := fun k_ => some k_ ≠ (v182 : Value).ownBlock) ho0 (fun k_ hk_ => hk_.2)) (below_size (kZ HB))); have n1_ := Aside0.mk (Kd.R_lower (Kd.R_mono (ok' := fun k_ => True) ho1 (fun _ hk_ => trivial)) (below_size (kZ HB))); have n2_ := Aside0.mk (below_step (kZ HB) hb); clear HB; have HO180 := n0_; have HO183 := n1_; have HB := n2_; clear n0_ n1_ n2_; (try clear hb); (try clear hb2); (try clear hk); (try clear hi); (try clear ho0); (try clear ho1); obtain ⟨Ao63, co63, eo63⟩ := Kd.V_slice HO180.out; subst eo63))
       repeat (go_quiet (first | (go_at_call 11; (with_reducible refine (locks_Take.calls (fun k_ => k_ < w.heap.size) _ _ l0 a1 a2 _ _ l3 t178 t181 false _ ?side1 ?side2 ?side3 A15.out).mono ?_); (case side1 => exact Kd.V_mk HC0.out (Kd.F_below (Kd.C_F k34_heap HR0.out) (kZ HB))); (case side2 => exact kC ((Kd.C_below HR3.out HB.out))); (case side3 => exact HC3.out); rintro e w62 ⟨v179, v182, rfl, ho0, ho1, hb⟩; have n0_ := Aside0.mk (Kd.V_lower (Kd.V_mono (ok' := fun k_ => some k_ ≠ (v182 : Value).ownBlock) ho0 (fun k_ hk_ => hk_.2)) (below_size (kZ HB))); have n1_ := Aside0.mk (Kd.R_lower (Kd.R_mono (ok' := fun k_ => True) ho1 (fun _ hk_ => trivial)) (below_size (kZ HB))); have n2_ := Aside0.mk (below_step (kZ HB) hb); clear HB; have HO180 := n0_; have HO183 := n1_; have HB := n2_; clear n0_ n1_ n2_; (try clear hb); (try clear hb2); (try clear hk); (try clear hi); (try clear ho0); (try clear ho1); obtain ⟨Ao63, co63, eo63⟩ := Kd.V_slice HO180.out; subst eo63)); try go_wp2_with (first | (go_at_call 11; (with_reducible refine (locks_Take.calls (fun k_ => k_ < w.heap.size) _ _ l0 a1 a2 _ _ l3 t178 t181 false _ ?side1 ?side2 ?side3 A15.out).mono ?_); (case side1 => exact Kd.V_mk HC0.out (Kd.F_below (Kd.C_F k34_heap HR0.out) (kZ HB))); (case side2 => exact kC ((Kd.C_below HR3.out HB.out))); (case side3 => exact HC3.out); rintro e w62 ⟨v179, v182, rfl, ho0, ho1, hb⟩; have n0_ := Aside0.mk (Kd.V_lower (Kd.V_mono (ok' := fun k_ => some k_ ≠ (v182 : Value).ownBlock) ho0 (fun k_ hk_ => hk_.2)) (below_size (kZ HB))); have n1_ := Aside0.mk (Kd.R_lower (Kd.R_mono (ok' := fun k_ => True) ho1 (fun _ hk_ => trivial)) (below_size (kZ HB))); have n2_ := Aside0.mk (below_step (kZ HB) hb); clear HB; have HO180 := n0_; have HO183 := n1_; have HB := n2_; clear n0_ n1_ n2_; (try clear hb); (try clear hb2); (try clear hk); (try clear hi); (try clear ho0); (try clear ho1); obtain ⟨Ao63, co63, eo63⟩ := Kd.V_slice HO180.out; subst eo63)))
       go_ret
       exact ⟨by first | rfl | (simp [errW_none, errW_some] <;> rfl) | (simp [*, errW_none, errW_some] <;> rfl), kZ HB⟩
      ·rw [if_neg c61] at H
       have c61b0 : ((t178.length : Int) == 0) = false := beq_eq_false_iff_ne.mpr c61
       have c61b1 : ((t178.length : Int) != 0) = true := bne_iff_ne.mpr c61
       have c61b2 : ¬ (t178 = []) := fun h_ => c61 (by rw [h_]; rfl)
       replace H := Option.bind_eq_some_iff.mp H
       obtain ⟨t185, A640, H⟩ := H
       replace H : (some t185) = some r := H
       have A64 := Aside0.mk A640
       clear A640
       obtain rfl := Option.some.inj H
       go_wp2_with (first | (go_at_call 11; (with_reducible refine (locks_Take.calls (fun k_ => k_ < w.heap.size) _ _ l0 a1 a2 _ _ l3 t178 t181 false _ ?side1 ?side2 ?side3 A15.out).mono ?_); (case side1 => exact Kd.V_mk HC0.out (Kd.F_below (Kd.C_F k34_heap HR0.out) (kZ HB))); (case side2 => exact kC ((Kd.C_below HR3.out HB.out))); (case side3 => exact HC3.out); rintro e w65 ⟨v179, v182, rfl, ho0, ho1, hb⟩; have n0_ := Aside0.mk (Kd.V_lower (Kd.V_mono (ok' := fun k_ => some k_ ≠ (v182 : Value).ownBlock) ho0 (fun k_ hk_ => hk_.2)) (below_size (kZ HB))); have n1_ := Aside0.mk (Kd.R_lower (Kd.R_mono (ok' := fun k_ => True) ho1 (fun _ hk_ => trivial)) (below_size (kZ HB))); have n2_ := Aside0.mk (below_step (kZ HB) hb); clear HB; have HO180 := n0_; have HO183 := n1_; have HB := n2_; clear n0_ n1_ n2_; (try clear hb); (try clear hb2); (try clear hk); (try clear hi); (try clear ho0); (try clear ho1); obtain ⟨Ao66, co66, eo66⟩ := Kd.V_slice HO180.out; subst eo66) | (go_at_call 12; (with_reducible refine (cantonref10_Same.calls kj5 _ _ t178 _ _ l0 t185 _ ?side1 ?side2 ?side3 ?side4 A64.out).mono ?_); (case side1 => exact kC ((Kd.V_reads' HO180.out).2.2)); (case side2 => exact (Kd.V_reads' HO180.out).2.1); (case side3 => exact kC ((Kd.C_below HR0.out HB.out))); (case side4 => exact HC0.out); rintro e w' ⟨rfl, ⟨nd, rfl⟩⟩; (try first | exact ⟨rfl, _, World.drewN_drewN _ _ _⟩ | exact ⟨rfl, _, Eq.trans (World.drewN_drewN _ _ _) (congrArg (World.drewN _) (Nat.add_assoc _ _ _))⟩)))
       repeat (go_quiet (first | (go_at_call 11; (with_reducible refine (locks_Take.calls (fun k_ => k_ < w.heap.size) _ _ l0 a1 a2 _ _ l3 t178 t181 false _ ?side1 ?side2 ?side3 A15.out).mono ?_); (case side1 => exact Kd.V_mk HC0.out (Kd.F_below (Kd.C_F k34_heap HR0.out) (kZ HB))); (case side2 => exact kC ((Kd.C_below HR3.out HB.out))); (case side3 => exact HC3.out); rintro e w65 ⟨v179, v182, rfl, ho0, ho1, hb⟩; have n0_ := Aside0.mk (Kd.V_lower (Kd.V_mono (ok' := fun k_ => some k_ ≠ (v182 : Value).ownBlock) ho0 (fun k_ hk_ => hk_.2)) (below_size (kZ HB))); have n1_ := Aside0.mk (Kd.R_lower (Kd.R_mono (ok' := fun k_ => True) ho1 (fun _ hk_ => trivial)) (below_size (kZ HB))); have n2_ := Aside0.mk (below_step (kZ HB) hb); clear HB; have HO180 := n0_; have HO183 := n1_; have HB := n2_; clear n0_ n1_ n2_; (try clear hb); (try clear hb2); (try clear hk); (try clear hi); (try clear ho0); (try clear ho1); obtain ⟨Ao66, co66, eo66⟩ := Kd.V_slice HO180.out; subst eo66) | (go_at_call 12; (with_reducible refine (cantonref10_Same.calls kj5 _ _ t178 _ _ l0 t185 _ ?side1 ?side2 ?side3 ?side4 A64.out).mono ?_); (case side1 => exact kC ((Kd.V_reads' HO180.out).2.2)); (case side2 => exact (Kd.V_reads' HO180.out).2.1); (case side3 => exact kC ((Kd.C_below HR0.out HB.out))); (case side4 => exact HC0.out); rintro e w' ⟨rfl, ⟨nd, rfl⟩⟩; (try first | exact ⟨rfl, _, World.drewN_drewN _ _ _⟩ | exact ⟨rfl, _, Eq.trans (World.drewN_drewN _ _ _) (congrArg (World.drewN _) (Nat.add_assoc _ _ _))⟩))); try go_wp2_with (first | (go_at_call 11; (with_reducible refine (locks_Take.calls (fun k_ => k_ < w.heap.size) _ _ l0 a1 a2 _ _ l3 t178 t181 false _ ?side1 ?side2 ?side3 A15.out).mono ?_); (case side1 => exact Kd.V_mk HC0.out (Kd.F_below (Kd.C_F k34_heap HR0.out) (kZ HB))); (case side2 => exact kC ((Kd.C_below HR3.out HB.out))); (case side3 => exact HC3.out); rintro e w65 ⟨v179, v182, rfl, ho0, ho1, hb⟩; have n0_ := Aside0.mk (Kd.V_lower (Kd.V_mono (ok' := fun k_ => some k_ ≠ (v182 : Value).ownBlock) ho0 (fun k_ hk_ => hk_.2)) (below_size (kZ HB))); have n1_ := Aside0.mk (Kd.R_lower (Kd.R_mono (ok' := fun k_ => True) ho1 (fun _ hk_ => trivial)) (below_size (kZ HB))); have n2_ := Aside0.mk (below_step (kZ HB) hb); clear HB; have HO180 := n0_; have HO183 := n1_; have HB := n2_; clear n0_ n1_ n2_; (try clear hb); (try clear hb2); (try clear hk); (try clear hi); (try clear ho0); (try clear ho1); obtain ⟨Ao66, co66, eo66⟩ := Kd.V_slice HO180.out; subst eo66) | (go_at_call 12; (with_reducible refine (cantonref10_Same.calls kj5 _ _ t178 _ _ l0 t185 _ ?side1 ?side2 ?side3 ?side4 A64.out).mono ?_); (case side1 => exact kC ((Kd.V_reads' HO180.out).2.2)); (case side2 => exact (Kd.V_reads' HO180.out).2.1); (case side3 => exact kC ((Kd.C_below HR0.out HB.out))); (case side4 => exact HC0.out); rintro e w' ⟨rfl, ⟨nd, rfl⟩⟩; (try first | exact ⟨rfl, _, World.drewN_drewN _ _ _⟩ | exact ⟨rfl, _, Eq.trans (World.drewN_drewN _ _ _) (congrArg (World.drewN _) (Nat.add_assoc _ _ _))⟩))))
       go_ret
       exact ⟨by first | rfl | (simp [errW_none, errW_some] <;> rfl) | (simp [*, errW_none, errW_some] <;> rfl), kZ HB⟩
     ·replace c60 := Bool.eq_false_iff.mpr c60
      subst c60
      have H1 : (some false) = some r := by rw [if_neg (show ¬ (false = true) by decide)] at H; exact H
      clear H
      have H := H1
      clear H1
      obtain rfl := Option.some.inj H
      go_wp2_with (first | (go_at_call 11; (with_reducible refine (locks_Take.calls (fun k_ => k_ < w.heap.size) _ _ l0 a1 a2 _ _ l3 t178 t181 false _ ?side1 ?side2 ?side3 A15.out).mono ?_); (case side1 => exact Kd.V_mk HC0.out (Kd.F_below (Kd.C_F k34_heap HR0.out) (kZ HB))); (case side2 => exact kC ((Kd.C_below HR3.out HB.out))); (case side3 => exact HC3.out); rintro e w67 ⟨v179, v182, rfl, ho0, ho1, hb⟩; have n0_ := Aside0.mk (Kd.V_lower (Kd.V_mono (ok' := fun k_ => some k_ ≠ (v182 : Value).ownBlock) ho0 (fun k_ hk_ => hk_.2)) (below_size (kZ HB))); have n1_ := Aside0.mk (Kd.R_lower (Kd.R_mono (ok' := fun k_ => True) ho1 (fun _ hk_ => trivial)) (below_size (kZ HB))); have n2_ := Aside0.mk (below_step (kZ HB) hb); clear HB; have HO180 := n0_; have HO183 := n1_; have HB := n2_; clear n0_ n1_ n2_; (try clear hb); (try clear hb2); (try clear hk); (try clear hi); (try clear ho0); (try clear ho1)))
      repeat (go_quiet (first | (go_at_call 11; (with_reducible refine (locks_Take.calls (fun k_ => k_ < w.heap.size) _ _ l0 a1 a2 _ _ l3 t178 t181 false _ ?side1 ?side2 ?side3 A15.out).mono ?_); (case side1 => exact Kd.V_mk HC0.out (Kd.F_below (Kd.C_F k34_heap HR0.out) (kZ HB))); (case side2 => exact kC ((Kd.C_below HR3.out HB.out))); (case side3 => exact HC3.out); rintro e w67 ⟨v179, v182, rfl, ho0, ho1, hb⟩; have n0_ := Aside0.mk (Kd.V_lower (Kd.V_mono (ok' := fun k_ => some k_ ≠ (v182 : Value).ownBlock) ho0 (fun k_ hk_ => hk_.2)) (below_size (kZ HB))); have n1_ := Aside0.mk (Kd.R_lower (Kd.R_mono (ok' := fun k_ => True) ho1 (fun _ hk_ => trivial)) (below_size (kZ HB))); have n2_ := Aside0.mk (below_step (kZ HB) hb); clear HB; have HO180 := n0_; have HO183 := n1_; have HB := n2_; clear n0_ n1_ n2_; (try clear hb); (try clear hb2); (try clear hk); (try clear hi); (try clear ho0); (try clear ho1))); try go_wp2_with (first | (go_at_call 11; (with_reducible refine (locks_Take.calls (fun k_ => k_ < w.heap.size) _ _ l0 a1 a2 _ _ l3 t178 t181 false _ ?side1 ?side2 ?side3 A15.out).mono ?_); (case side1 => exact Kd.V_mk HC0.out (Kd.F_below (Kd.C_F k34_heap HR0.out) (kZ HB))); (case side2 => exact kC ((Kd.C_below HR3.out HB.out))); (case side3 => exact HC3.out); rintro e w67 ⟨v179, v182, rfl, ho0, ho1, hb⟩; have n0_ := Aside0.mk (Kd.V_lower (Kd.V_mono (ok' := fun k_ => some k_ ≠ (v182 : Value).ownBlock) ho0 (fun k_ hk_ => hk_.2)) (below_size (kZ HB))); have n1_ := Aside0.mk (Kd.R_lower (Kd.R_mono (ok' := fun k_ => True) ho1 (fun _ hk_ => trivial)) (below_size (kZ HB))); have n2_ := Aside0.mk (below_step (kZ HB) hb); clear HB; have HO180 := n0_; have HO183 := n1_; have HB := n2_; clear n0_ n1_ n2_; (try clear hb); (try clear hb2); (try clear hk); (try clear hi); (try clear ho0); (try clear ho1))))
      go_ret
      exact ⟨by first | rfl | (simp [errW_none, errW_some] <;> rfl) | (simp [*, errW_none, errW_some] <;> rfl), kZ HB⟩

end Go.Proofs.Ytclomgbiomojjaa.Q
