-- Written by a program of this session (xprint) out of the translation; over contracts proved by hand.
import Derived.Test.YtclomgbiomojjaaQx0
import Derived.Test.YtclomgbiomojjaaSq
import Derived.Test.YtclomgbiomojjaaQx2b
import Derived.Test.YtclomgbiomojjaaLHeld
import Derived.Test.YtclomgbiomojjaaLTake
namespace Go.Proofs.Ytclomgbiomojjaa.LDir2
end Go.Proofs.Ytclomgbiomojjaa.LDir2
namespace Go.Proofs.Ytclomgbiomojjaa.LFree
end Go.Proofs.Ytclomgbiomojjaa.LFree
namespace Go.Proofs.Ytclomgbiomojjaa.LHeld
end Go.Proofs.Ytclomgbiomojjaa.LHeld
namespace Go.Proofs.Ytclomgbiomojjaa.LRgt
end Go.Proofs.Ytclomgbiomojjaa.LRgt
namespace Go.Proofs.Ytclomgbiomojjaa.LTake
end Go.Proofs.Ytclomgbiomojjaa.LTake
namespace Go.Proofs.Ytclomgbiomojjaa.New
end Go.Proofs.Ytclomgbiomojjaa.New
namespace Go.Proofs.Ytclomgbiomojjaa.Split
end Go.Proofs.Ytclomgbiomojjaa.Split
namespace Go.Proofs.Ytclomgbiomojjaa.Q
open Go.Proofs.Ytclomgbiomojjaa.LDir2 Go.Proofs.Ytclomgbiomojjaa.LFree Go.Proofs.Ytclomgbiomojjaa.LHeld Go.Proofs.Ytclomgbiomojjaa.LRgt Go.Proofs.Ytclomgbiomojjaa.LTake Go.Proofs.Ytclomgbiomojjaa.New Go.Proofs.Ytclomgbiomojjaa.Split
set_option linter.unnecessarySimpa false
open Go.RowKit Go.Proofs.YtclomgbiomojjaaW.PrintWords Go.Proofs.YtclomgbiomojjaaW.PrintLast Go.Proofs.YtclomgbiomojjaaW.PrintMore
attribute [local go_sem] max2_int min2_int max_two min_two max_three min_three max_four min_four   -- for this text's walks alone
set_option linter.unusedVariables false
set_option linter.unusedSimpArgs false

/-! ### cantonlaw10_LocksRing: function 4 -/
mutual
def cantonlaw10_LocksRing.j0 : Nat → Int → Int → Int → Int → List ByteArray → List ByteArray → Bool → Bool → Option (Bool)
 | 0, _, _, _, _, _, _, _, _ => none
 | k + 1, x0, x1, x2, x3, x4, x5, x13, x54 => if x54 = true then (some x13) else ((locks_Take.f ([] : List (S34)) (wrap64 (x0)) (wrap64 (x2)) x4).bind fun bt201 => ((locks_Take.f bt201.1 (wrap64 (x1)) (wrap64 (x3)) x5).bind fun bt208 => (if bt201.2.2 = true then (cantonlaw10_LocksRing.j1 k x0 x1 x2 x3 x4 x5 x13 bt208.1 (!bt208.2.2)) else (cantonlaw10_LocksRing.j1 k x0 x1 x2 x3 x4 x5 x13 bt208.1 true))))
def cantonlaw10_LocksRing.j1 : Nat → Int → Int → Int → Int → List ByteArray → List ByteArray → Bool → List (S34) → Bool → Option (Bool)
 | 0, _, _, _, _, _, _, _, _, _ => none
 | k + 1, x0, x1, x2, x3, x4, x5, x13, x17, x82 => if x82 = true then (some x13) else ((locks_Take.f x17 (wrap64 (x0)) (wrap64 (x2)) x5).bind fun bt215 => ((locks_Take.f x17 (wrap64 (x1)) (wrap64 (x3)) x4).bind fun bt222 => (if x2 < x3 then (cantonlaw10_LocksRing.j2 k x0 x1 x2 x3 x4 x5 x13 x17 bt215.2.1 bt215.2.2 bt222.2.1 bt222.2.2 true) else (if x2 = x3 then (cantonlaw10_LocksRing.j2 k x0 x1 x2 x3 x4 x5 x13 x17 bt215.2.1 bt215.2.2 bt222.2.1 bt222.2.2 (decide (x0 < x1))) else (cantonlaw10_LocksRing.j2 k x0 x1 x2 x3 x4 x5 x13 x17 bt215.2.1 bt215.2.2 bt222.2.1 bt222.2.2 false)))))
def cantonlaw10_LocksRing.j2 : Nat → Int → Int → Int → Int → List ByteArray → List ByteArray → Bool → List (S34) → List Int → Bool → List Int → Bool → Bool → Option (Bool)
 | 0, _, _, _, _, _, _, _, _, _, _, _, _, _ => none
 | k + 1, x0, x1, x2, x3, x4, x5, x13, x17, x21, x22, x24, x25, x26 => if x22 = true then (cantonlaw10_LocksRing.j3 k x0 x1 x2 x3 x4 x5 x13 x17 x21 x24 x26 true) else (if x25 = true then (cantonlaw10_LocksRing.j3 k x0 x1 x2 x3 x4 x5 x13 x17 x21 x24 x26 true) else (if (((x21.length : Int) == 1) != x26) = true then (cantonlaw10_LocksRing.j3 k x0 x1 x2 x3 x4 x5 x13 x17 x21 x24 x26 true) else (if (((x24.length : Int) == 1) == x26) = true then (cantonlaw10_LocksRing.j3 k x0 x1 x2 x3 x4 x5 x13 x17 x21 x24 x26 true) else (cantonlaw10_LocksRing.j3 k x0 x1 x2 x3 x4 x5 x13 x17 x21 x24 x26 ((wrap64 ((x21.length : Int) + (x24.length : Int))) != 1)))))
def cantonlaw10_LocksRing.j3 : Nat → Int → Int → Int → Int → List ByteArray → List ByteArray → Bool → List (S34) → List Int → List Int → Bool → Bool → Option (Bool)
 | 0, _, _, _, _, _, _, _, _, _, _, _, _ => none
 | k + 1, x0, x1, x2, x3, x4, x5, x13, x17, x21, x24, x26, x144 => if x144 = true then (some false) else (if x26 = true then ((locks_Free.f x17 (wrap64 (x1))).bind fun t229 => ((locks_Take.f t229 (wrap64 (x0)) (wrap64 (x2)) x5).bind fun bt232 => (if x13 = true then (if bt232.2.2 = true then (if 0 < (x21.length : Int) then (some ((rd x21 0) == (wrap64 (x1)))) else (none)) else (some false)) else (some false)))) else ((locks_Free.f x17 (wrap64 (x0))).bind fun t240 => ((locks_Take.f t240 (wrap64 (x1)) (wrap64 (x3)) x4).bind fun bt243 => (if x13 = true then (if bt243.2.2 = true then (if 0 < (x24.length : Int) then (some ((rd x24 0) == (wrap64 (x0)))) else (none)) else (some false)) else (some false)))))
end
def cantonlaw10_LocksRing.f (k : Nat) (a0 : Int) (a1 : Int) (a2 : Int) (a3 : Int) (l4 : List ByteArray) (l5 : List ByteArray) : Option (Bool) := (cantonlaw10_head.f).bind fun t198 => ((cantonlaw10_great.f k ([] : List (S34)) l4).bind fun t199 => (if t199 = true then (cantonlaw10_LocksRing.j0 k a0 a1 a2 a3 l4 l5 t198 true) else ((cantonlaw10_great.f k ([] : List (S34)) l5).bind fun t200 => (if t200 = true then (cantonlaw10_LocksRing.j0 k a0 a1 a2 a3 l4 l5 t198 true) else (if a0 = a1 then (cantonlaw10_LocksRing.j0 k a0 a1 a2 a3 l4 l5 t198 true) else (if (l4.length : Int) = 0 then (cantonlaw10_LocksRing.j0 k a0 a1 a2 a3 l4 l5 t198 true) else (cantonlaw10_LocksRing.j0 k a0 a1 a2 a3 l4 l5 t198 ((l5.length : Int) == 0))))))))
theorem cantonlaw10_LocksRing.mono_l : ∀ k, (∀ y0 y1 y2 y3 y4 y5 y6 y7, LeO (cantonlaw10_LocksRing.j0 k y0 y1 y2 y3 y4 y5 y6 y7) (cantonlaw10_LocksRing.j0 (k + 1) y0 y1 y2 y3 y4 y5 y6 y7)) ∧ (∀ y0 y1 y2 y3 y4 y5 y6 y7 y8, LeO (cantonlaw10_LocksRing.j1 k y0 y1 y2 y3 y4 y5 y6 y7 y8) (cantonlaw10_LocksRing.j1 (k + 1) y0 y1 y2 y3 y4 y5 y6 y7 y8)) ∧ (∀ y0 y1 y2 y3 y4 y5 y6 y7 y8 y9 y10 y11 y12, LeO (cantonlaw10_LocksRing.j2 k y0 y1 y2 y3 y4 y5 y6 y7 y8 y9 y10 y11 y12) (cantonlaw10_LocksRing.j2 (k + 1) y0 y1 y2 y3 y4 y5 y6 y7 y8 y9 y10 y11 y12)) ∧ (∀ y0 y1 y2 y3 y4 y5 y6 y7 y8 y9 y10 y11, LeO (cantonlaw10_LocksRing.j3 k y0 y1 y2 y3 y4 y5 y6 y7 y8 y9 y10 y11) (cantonlaw10_LocksRing.j3 (k + 1) y0 y1 y2 y3 y4 y5 y6 y7 y8 y9 y10 y11))
 | 0 => ⟨fun _ _ _ _ _ _ _ _ r h => by simp [cantonlaw10_LocksRing.j0] at h, fun _ _ _ _ _ _ _ _ _ r h => by simp [cantonlaw10_LocksRing.j1] at h, fun _ _ _ _ _ _ _ _ _ _ _ _ _ r h => by simp [cantonlaw10_LocksRing.j2] at h, fun _ _ _ _ _ _ _ _ _ _ _ _ r h => by simp [cantonlaw10_LocksRing.j3] at h⟩
 | k + 1 => by
  obtain ⟨ih0, ih1, ih2, ih3⟩ := cantonlaw10_LocksRing.mono_l k
  refine ⟨?_, ?_, ?_, ?_⟩
  ·intro y0 y1 y2 y3 y4 y5 y6 y7
   unfold cantonlaw10_LocksRing.j0
   repeat' first
   | (with_reducible exact ih0 _ _ _ _ _ _ _ _)
   | (with_reducible exact ih1 _ _ _ _ _ _ _ _ _)
   | (with_reducible exact ih2 _ _ _ _ _ _ _ _ _ _ _ _ _)
   | (with_reducible exact ih3 _ _ _ _ _ _ _ _ _ _ _ _)
   | (with_reducible exact cantonlaw10_great.mono _ _ _)
   | (with_reducible exact LeO.refl _)
   | (with_reducible exact LeO.none _)
   | (with_reducible refine LeO.ite ?_ ?_)
   | (with_reducible refine LeO.bind ?_ (fun _ => ?_))
   | exact ih0 _ _ _ _ _ _ _ _
   | exact ih1 _ _ _ _ _ _ _ _ _
   | exact ih2 _ _ _ _ _ _ _ _ _ _ _ _ _
   | exact ih3 _ _ _ _ _ _ _ _ _ _ _ _
   | exact cantonlaw10_great.mono _ _ _
   | exact LeO.none _
   | refine LeO.ite ?_ ?_
   | refine LeO.bind ?_ (fun _ => ?_)
  ·intro y0 y1 y2 y3 y4 y5 y6 y7 y8
   unfold cantonlaw10_LocksRing.j1
   repeat' first
   | (with_reducible exact ih0 _ _ _ _ _ _ _ _)
   | (with_reducible exact ih1 _ _ _ _ _ _ _ _ _)
   | (with_reducible exact ih2 _ _ _ _ _ _ _ _ _ _ _ _ _)
   | (with_reducible exact ih3 _ _ _ _ _ _ _ _ _ _ _ _)
   | (with_reducible exact cantonlaw10_great.mono _ _ _)
   | (with_reducible exact LeO.refl _)
   | (with_reducible exact LeO.none _)
   | (with_reducible refine LeO.ite ?_ ?_)
   | (with_reducible refine LeO.bind ?_ (fun _ => ?_))
   | exact ih0 _ _ _ _ _ _ _ _
   | exact ih1 _ _ _ _ _ _ _ _ _
   | exact ih2 _ _ _ _ _ _ _ _ _ _ _ _ _
   | exact ih3 _ _ _ _ _ _ _ _ _ _ _ _
   | exact cantonlaw10_great.mono _ _ _
   | exact LeO.none _
   | refine LeO.ite ?_ ?_
   | refine LeO.bind ?_ (fun _ => ?_)
  ·intro y0 y1 y2 y3 y4 y5 y6 y7 y8 y9 y10 y11 y12
   unfold cantonlaw10_LocksRing.j2
   repeat' first
   | (with_reducible exact ih0 _ _ _ _ _ _ _ _)
   | (with_reducible exact ih1 _ _ _ _ _ _ _ _ _)
   | (with_reducible exact ih2 _ _ _ _ _ _ _ _ _ _ _ _ _)
   | (with_reducible exact ih3 _ _ _ _ _ _ _ _ _ _ _ _)
   | (with_reducible exact cantonlaw10_great.mono _ _ _)
   | (with_reducible exact LeO.refl _)
   | (with_reducible exact LeO.none _)
   | (with_reducible refine LeO.ite ?_ ?_)
   | (with_reducible refine LeO.bind ?_ (fun _ => ?_))
   | exact ih0 _ _ _ _ _ _ _ _
   | exact ih1 _ _ _ _ _ _ _ _ _
   | exact ih2 _ _ _ _ _ _ _ _ _ _ _ _ _
   | exact ih3 _ _ _ _ _ _ _ _ _ _ _ _
   | exact cantonlaw10_great.mono _ _ _
   | exact LeO.none _
   | refine LeO.ite ?_ ?_
   | refine LeO.bind ?_ (fun _ => ?_)
  ·intro y0 y1 y2 y3 y4 y5 y6 y7 y8 y9 y10 y11
   unfold cantonlaw10_LocksRing.j3
   repeat' first
   | (with_reducible exact ih0 _ _ _ _ _ _ _ _)
   | (with_reducible exact ih1 _ _ _ _ _ _ _ _ _)
   | (with_reducible exact ih2 _ _ _ _ _ _ _ _ _ _ _ _ _)
   | (with_reducible exact ih3 _ _ _ _ _ _ _ _ _ _ _ _)
   | (with_reducible exact cantonlaw10_great.mono _ _ _)
   | (with_reducible exact LeO.refl _)
   | (with_reducible exact LeO.none _)
   | (with_reducible refine LeO.ite ?_ ?_)
   | (with_reducible refine LeO.bind ?_ (fun _ => ?_))
   | exact ih0 _ _ _ _ _ _ _ _
   | exact ih1 _ _ _ _ _ _ _ _ _
   | exact ih2 _ _ _ _ _ _ _ _ _ _ _ _ _
   | exact ih3 _ _ _ _ _ _ _ _ _ _ _ _
   | exact cantonlaw10_great.mono _ _ _
   | exact LeO.none _
   | refine LeO.ite ?_ ?_
   | refine LeO.bind ?_ (fun _ => ?_)
theorem cantonlaw10_LocksRing.mono : ∀ a0 a1 a2 a3 a4 a5 k, LeO (cantonlaw10_LocksRing.f k a0 a1 a2 a3 a4 a5) (cantonlaw10_LocksRing.f (k + 1) a0 a1 a2 a3 a4 a5) := by
 intro a0 a1 a2 a3 a4 a5 k
 obtain ⟨ih0, ih1, ih2, ih3⟩ := cantonlaw10_LocksRing.mono_l k
 unfold cantonlaw10_LocksRing.f
 repeat' first
   | (with_reducible exact ih0 _ _ _ _ _ _ _ _)
   | (with_reducible exact ih1 _ _ _ _ _ _ _ _ _)
   | (with_reducible exact ih2 _ _ _ _ _ _ _ _ _ _ _ _ _)
   | (with_reducible exact ih3 _ _ _ _ _ _ _ _ _ _ _ _)
   | (with_reducible exact cantonlaw10_great.mono _ _ _)
   | (with_reducible exact LeO.refl _)
   | (with_reducible exact LeO.none _)
   | (with_reducible refine LeO.ite ?_ ?_)
   | (with_reducible refine LeO.bind ?_ (fun _ => ?_))
   | exact ih0 _ _ _ _ _ _ _ _
   | exact ih1 _ _ _ _ _ _ _ _ _
   | exact ih2 _ _ _ _ _ _ _ _ _ _ _ _ _
   | exact ih3 _ _ _ _ _ _ _ _ _ _ _ _
   | exact cantonlaw10_great.mono _ _ _
   | exact LeO.none _
   | refine LeO.ite ?_ ?_
   | refine LeO.bind ?_ (fun _ => ?_)
set_option maxHeartbeats 8000000 in
set_option maxRecDepth 100000 in
theorem cantonlaw10_LocksRing.calls (k : Nat) (a0 : Int) (a1 : Int) (a2 : Int) (a3 : Int) (A4 : Option Addr) (c4 : Nat) (l4 : List ByteArray) (A5 : Option Addr) (c5 : Nat) (l5 : List ByteArray) (r : Bool) (w : World) (hr4 : Kd.C Kd.string w A4 l4.length l4) (hc4 : l4.length ≤ c4) (hr5 : Kd.C Kd.string w A5 l5.length l5) (hc5 : l5.length ≤ c5) (h : cantonlaw10_LocksRing.f k a0 a1 a2 a3 l4 l5 = some r) :
  Calls Try.prog 4 #[.int .u32 a0, .int .u32 a1, .int .u32 a2, .int .u32 a3, .slice A4 l4.length c4, .slice A5 l5.length c5] w fun e w' => e = .returned (.bool r) ∧ Below w.heap.size w w' := by
 have HR4 := Aside0.mk hr4
 have HC4 := Aside0.mk hc4
 clear hr4 hc4
 have HR5 := Aside0.mk hr5
 have HC5 := Aside0.mk hc5
 clear hr5 hc5
 have HB := Aside0.mk (Below.refl w.heap.size w)
 have H : ((cantonlaw10_head.f).bind fun t198 => ((cantonlaw10_great.f k ([] : List (S34)) l4).bind fun t199 => (if t199 = true then (cantonlaw10_LocksRing.j0 k a0 a1 a2 a3 l4 l5 t198 true) else ((cantonlaw10_great.f k ([] : List (S34)) l5).bind fun t200 => (if t200 = true then (cantonlaw10_LocksRing.j0 k a0 a1 a2 a3 l4 l5 t198 true) else (if a0 = a1 then (cantonlaw10_LocksRing.j0 k a0 a1 a2 a3 l4 l5 t198 true) else (if (l4.length : Int) = 0 then (cantonlaw10_LocksRing.j0 k a0 a1 a2 a3 l4 l5 t198 true) else (cantonlaw10_LocksRing.j0 k a0 a1 a2 a3 l4 l5 t198 ((l5.length : Int) == 0))))))))) = some r := h
 clear h
 replace H := Option.bind_eq_some_iff.mp H
 obtain ⟨t198, A70, H⟩ := H
 replace H : ((cantonlaw10_great.f k ([] : List (S34)) l4).bind fun t199 => (if t199 = true then (cantonlaw10_LocksRing.j0 k a0 a1 a2 a3 l4 l5 t198 true) else ((cantonlaw10_great.f k ([] : List (S34)) l5).bind fun t200 => (if t200 = true then (cantonlaw10_LocksRing.j0 k a0 a1 a2 a3 l4 l5 t198 true) else (if a0 = a1 then (cantonlaw10_LocksRing.j0 k a0 a1 a2 a3 l4 l5 t198 true) else (if (l4.length : Int) = 0 then (cantonlaw10_LocksRing.j0 k a0 a1 a2 a3 l4 l5 t198 true) else (cantonlaw10_LocksRing.j0 k a0 a1 a2 a3 l4 l5 t198 ((l5.length : Int) == 0)))))))) = some r := H
 have A7 := Aside0.mk A70
 clear A70
 have HC8 := Aside0.mk H
 clear H
 go_enter Try.func4, Try.ntmps4
 go_upto_region 2 with (first | ((with_reducible refine gate_callee (f := 8) rfl ?_); refine gL (some 33) Try.func8 #[] rfl rfl ?_; (with_reducible refine (cantonlaw10_head.calls  t198 _ A7.out).mono ?_); rintro e w9 ⟨rfl, hb⟩; refine ⟨_, rfl, ?_⟩; have n0_ := Aside0.mk (below_step (kZ HB) hb); clear HB; have HB := n0_; clear n0_; (try clear hb); (try clear hb2); (try clear hk); (try clear hi)))
 (try simp only [Act.put, List.setIfInBounds_toArray, List.set_cons_zero, List.set_cons_succ])
 go_cut [54] (fun v54 wc => ∃ (kq : Nat) (x54_7 : Bool), v54 = .bool x54_7 ∧ Aside0 (cantonlaw10_LocksRing.j0 kq a0 a1 a2 a3 l4 l5 t198 x54_7 = some r) ∧ Aside0 (kq ≤ k) ∧ Aside0 (Below w.heap.size w wc))
 case first => as_aux_lemma =>
  have H := HC8.out
  clear HC8
  replace H := Option.bind_eq_some_iff.mp H
  obtain ⟨t199, A100, H⟩ := H
  replace H : (if t199 = true then (cantonlaw10_LocksRing.j0 k a0 a1 a2 a3 l4 l5 t198 true) else ((cantonlaw10_great.f k ([] : List (S34)) l5).bind fun t200 => (if t200 = true then (cantonlaw10_LocksRing.j0 k a0 a1 a2 a3 l4 l5 t198 true) else (if a0 = a1 then (cantonlaw10_LocksRing.j0 k a0 a1 a2 a3 l4 l5 t198 true) else (if (l4.length : Int) = 0 then (cantonlaw10_LocksRing.j0 k a0 a1 a2 a3 l4 l5 t198 true) else (cantonlaw10_LocksRing.j0 k a0 a1 a2 a3 l4 l5 t198 ((l5.length : Int) == 0))))))) = some r := H
  have A10 := Aside0.mk A100
  clear A100
  by_cases c11 : t199 = true
  ·subst c11
   have H1 : (cantonlaw10_LocksRing.j0 k a0 a1 a2 a3 l4 l5 t198 true) = some r := by rw [if_pos rfl] at H; exact H
   clear H
   have H := H1
   clear H1
   have H' := Aside0.mk H
   clear H
   go_wp2_with (first | ((with_reducible refine gate_callee (f := 9) rfl ?_); refine gL (some 35) Try.func9 #[.slice none 0 0, .slice A4 l4.length c4] rfl rfl ?_; (refine (cantonlaw10_great.calls k _ _ ([] : List (S34)) _ _ l4 true _ ?side1 ?side2 ?side3 ?side4 A10.out).mono ?_); (case side1 => exact Kd.C_nil _ _); (case side2 => exact Nat.le_refl _); (case side3 => exact kC ((Kd.C_below HR4.out HB.out))); (case side4 => exact HC4.out); rintro e w12 ⟨rfl, hb⟩; refine ⟨_, rfl, ?_⟩; have n0_ := Aside0.mk (below_step (kZ HB) hb); clear HB; have HB := n0_; clear n0_; (try clear hb); (try clear hb2); (try clear hk); (try clear hi)))
   go_meet
   case rel => exact ⟨_, (true), (by first | rfl | (simp; done) | (simp [*]; done)), H', ⟨by first | omega | exact Nat.le_refl _⟩, ⟨kZ HB⟩⟩
  ·replace c11 := Bool.eq_false_iff.mpr c11
   subst c11
   have H1 : ((cantonlaw10_great.f k ([] : List (S34)) l5).bind fun t200 => (if t200 = true then (cantonlaw10_LocksRing.j0 k a0 a1 a2 a3 l4 l5 t198 true) else (if a0 = a1 then (cantonlaw10_LocksRing.j0 k a0 a1 a2 a3 l4 l5 t198 true) else (if (l4.length : Int) = 0 then (cantonlaw10_LocksRing.j0 k a0 a1 a2 a3 l4 l5 t198 true) else (cantonlaw10_LocksRing.j0 k a0 a1 a2 a3 l4 l5 t198 ((l5.length : Int) == 0)))))) = some r := by rw [if_neg (show ¬ (false = true) by decide)] at H; exact H
   clear H
   have H := H1
   clear H1
   replace H := Option.bind_eq_some_iff.mp H
   obtain ⟨t200, A130, H⟩ := H
   replace H : (if t200 = true then (cantonlaw10_LocksRing.j0 k a0 a1 a2 a3 l4 l5 t198 true) else (if a0 = a1 then (cantonlaw10_LocksRing.j0 k a0 a1 a2 a3 l4 l5 t198 true) else (if (l4.length : Int) = 0 then (cantonlaw10_LocksRing.j0 k a0 a1 a2 a3 l4 l5 t198 true) else (cantonlaw10_LocksRing.j0 k a0 a1 a2 a3 l4 l5 t198 ((l5.length : Int) == 0))))) = some r := H
   have A13 := Aside0.mk A130
   clear A130
   by_cases c14 : t200 = true
   ·subst c14
    have H1 : (cantonlaw10_LocksRing.j0 k a0 a1 a2 a3 l4 l5 t198 true) = some r := by rw [if_pos rfl] at H; exact H
    clear H
    have H := H1
    clear H1
    have H' := Aside0.mk H
    clear H
    go_wp2_with (first | ((with_reducible refine gate_callee (f := 9) rfl ?_); refine gL (some 35) Try.func9 #[.slice none 0 0, .slice A4 l4.length c4] rfl rfl ?_; (refine (cantonlaw10_great.calls k _ _ ([] : List (S34)) _ _ l4 false _ ?side1 ?side2 ?side3 ?side4 A10.out).mono ?_); (case side1 => exact Kd.C_nil _ _); (case side2 => exact Nat.le_refl _); (case side3 => exact kC ((Kd.C_below HR4.out HB.out))); (case side4 => exact HC4.out); rintro e w15 ⟨rfl, hb⟩; refine ⟨_, rfl, ?_⟩; have n0_ := Aside0.mk (below_step (kZ HB) hb); clear HB; have HB := n0_; clear n0_; (try clear hb); (try clear hb2); (try clear hk); (try clear hi)) | (go_at_call 9; (refine (cantonlaw10_great.calls k _ _ ([] : List (S34)) _ _ l5 true _ ?side1 ?side2 ?side3 ?side4 A13.out).mono ?_); (case side1 => exact Kd.C_nil _ _); (case side2 => exact Nat.le_refl _); (case side3 => exact kC ((Kd.C_below HR5.out HB.out))); (case side4 => exact HC5.out); rintro e w16 ⟨rfl, hb⟩; have n0_ := Aside0.mk (below_step (kZ HB) hb); clear HB; have HB := n0_; clear n0_; (try clear hb); (try clear hb2); (try clear hk); (try clear hi)))
    go_meet
    case rel => exact ⟨_, (true), (by first | rfl | (simp; done) | (simp [*]; done)), H', ⟨by first | omega | exact Nat.le_refl _⟩, ⟨kZ HB⟩⟩
   ·replace c14 := Bool.eq_false_iff.mpr c14
    subst c14
    have H1 : (if a0 = a1 then (cantonlaw10_LocksRing.j0 k a0 a1 a2 a3 l4 l5 t198 true) else (if (l4.length : Int) = 0 then (cantonlaw10_LocksRing.j0 k a0 a1 a2 a3 l4 l5 t198 true) else (cantonlaw10_LocksRing.j0 k a0 a1 a2 a3 l4 l5 t198 ((l5.length : Int) == 0)))) = some r := by rw [if_neg (show ¬ (false = true) by decide)] at H; exact H
    clear H
    have H := H1
    clear H1
    by_cases c17 : a0 = a1
    ·rw [if_pos c17] at H
     have c17b0 : (a0 == a1) = true := beq_iff_eq.mpr c17
     have c17b1 : (a0 != a1) = false := bne_eq_false_iff_eq.mpr c17
     clear c17
     (first | rw [c17b0] | (simp only [i64_w, i32_w]; rw [c17b0]) | skip)
     have H' := Aside0.mk H
     clear H
     go_wp2_with (first | ((with_reducible refine gate_callee (f := 9) rfl ?_); refine gL (some 35) Try.func9 #[.slice none 0 0, .slice A4 l4.length c4] rfl rfl ?_; (refine (cantonlaw10_great.calls k _ _ ([] : List (S34)) _ _ l4 false _ ?side1 ?side2 ?side3 ?side4 A10.out).mono ?_); (case side1 => exact Kd.C_nil _ _); (case side2 => exact Nat.le_refl _); (case side3 => exact kC ((Kd.C_below HR4.out HB.out))); (case side4 => exact HC4.out); rintro e w18 ⟨rfl, hb⟩; refine ⟨_, rfl, ?_⟩; have n0_ := Aside0.mk (below_step (kZ HB) hb); clear HB; have HB := n0_; clear n0_; (try clear hb); (try clear hb2); (try clear hk); (try clear hi)) | (go_at_call 9; (refine (cantonlaw10_great.calls k _ _ ([] : List (S34)) _ _ l5 false _ ?side1 ?side2 ?side3 ?side4 A13.out).mono ?_); (case side1 => exact Kd.C_nil _ _); (case side2 => exact Nat.le_refl _); (case side3 => exact kC ((Kd.C_below HR5.out HB.out))); (case side4 => exact HC5.out); rintro e w19 ⟨rfl, hb⟩; have n0_ := Aside0.mk (below_step (kZ HB) hb); clear HB; have HB := n0_; clear n0_; (try clear hb); (try clear hb2); (try clear hk); (try clear hi)))
     go_meet
     case rel => exact ⟨_, (true), (by first | rfl | (simp; done) | (simp [*]; done)), H', ⟨by first | omega | exact Nat.le_refl _⟩, ⟨kZ HB⟩⟩
    ·rw [if_neg c17] at H
     have c17b0 : (a0 == a1) = false := beq_eq_false_iff_ne.mpr c17
     have c17b1 : (a0 != a1) = true := bne_iff_ne.mpr c17
     (first | rw [c17b0] | (simp only [i64_w, i32_w]; rw [c17b0]) | skip)
     by_cases c20 : (l4.length : Int) = 0
     ·rw [if_pos c20] at H
      have c20b0 : ((l4.length : Int) == 0) = true := beq_iff_eq.mpr c20
      have c20b1 : ((l4.length : Int) != 0) = false := bne_eq_false_iff_eq.mpr c20
      clear c20
      have H' := Aside0.mk H
      clear H
      go_wp2_with (first | ((with_reducible refine gate_callee (f := 9) rfl ?_); refine gL (some 35) Try.func9 #[.slice none 0 0, .slice A4 l4.length c4] rfl rfl ?_; (refine (cantonlaw10_great.calls k _ _ ([] : List (S34)) _ _ l4 false _ ?side1 ?side2 ?side3 ?side4 A10.out).mono ?_); (case side1 => exact Kd.C_nil _ _); (case side2 => exact Nat.le_refl _); (case side3 => exact kC ((Kd.C_below HR4.out HB.out))); (case side4 => exact HC4.out); rintro e w21 ⟨rfl, hb⟩; refine ⟨_, rfl, ?_⟩; have n0_ := Aside0.mk (below_step (kZ HB) hb); clear HB; have HB := n0_; clear n0_; (try clear hb); (try clear hb2); (try clear hk); (try clear hi)) | (go_at_call 9; (refine (cantonlaw10_great.calls k _ _ ([] : List (S34)) _ _ l5 false _ ?side1 ?side2 ?side3 ?side4 A13.out).mono ?_); (case side1 => exact Kd.C_nil _ _); (case side2 => exact Nat.le_refl _); (case side3 => exact kC ((Kd.C_below HR5.out HB.out))); (case side4 => exact HC5.out); rintro e w22 ⟨rfl, hb⟩; have n0_ := Aside0.mk (below_step (kZ HB) hb); clear HB; have HB := n0_; clear n0_; (try clear hb); (try clear hb2); (try clear hk); (try clear hi)))
      go_meet
      case rel => exact ⟨_, (true), (by first | rfl | (simp; done) | (simp [*]; done)), H', ⟨by first | omega | exact Nat.le_refl _⟩, ⟨kZ HB⟩⟩
     ·rw [if_neg c20] at H
      have c20b0 : ((l4.length : Int) == 0) = false := beq_eq_false_iff_ne.mpr c20
      have c20b1 : ((l4.length : Int) != 0) = true := bne_iff_ne.mpr c20
      have c20b2 : ¬ (l4 = []) := fun h_ => c20 (by rw [h_]; rfl)
      have H' := Aside0.mk H
      clear H
      go_wp2_with (first | ((with_reducible refine gate_callee (f := 9) rfl ?_); refine gL (some 35) Try.func9 #[.slice none 0 0, .slice A4 l4.length c4] rfl rfl ?_; (refine (cantonlaw10_great.calls k _ _ ([] : List (S34)) _ _ l4 false _ ?side1 ?side2 ?side3 ?side4 A10.out).mono ?_); (case side1 => exact Kd.C_nil _ _); (case side2 => exact Nat.le_refl _); (case side3 => exact kC ((Kd.C_below HR4.out HB.out))); (case side4 => exact HC4.out); rintro e w23 ⟨rfl, hb⟩; refine ⟨_, rfl, ?_⟩; have n0_ := Aside0.mk (below_step (kZ HB) hb); clear HB; have HB := n0_; clear n0_; (try clear hb); (try clear hb2); (try clear hk); (try clear hi)) | (go_at_call 9; (refine (cantonlaw10_great.calls k _ _ ([] : List (S34)) _ _ l5 false _ ?side1 ?side2 ?side3 ?side4 A13.out).mono ?_); (case side1 => exact Kd.C_nil _ _); (case side2 => exact Nat.le_refl _); (case side3 => exact kC ((Kd.C_below HR5.out HB.out))); (case side4 => exact HC5.out); rintro e w24 ⟨rfl, hb⟩; have n0_ := Aside0.mk (below_step (kZ HB) hb); clear HB; have HB := n0_; clear n0_; (try clear hb); (try clear hb2); (try clear hk); (try clear hi)))
      go_meet
      case rel => exact ⟨_, (((l5.length : Int) == 0)), (by first | rfl | (simp; done) | (simp [*]; done)), H', ⟨by first | omega | exact Nat.le_refl _⟩, ⟨kZ HB⟩⟩
 case rest => as_aux_lemma =>
  clear HC8
  try clear c1
  try clear c2
  try clear p2
  try clear c4
  try clear c5
  try clear c8
  try clear c9
  try clear c11
  try clear c14
  try clear c17
  try clear c17b0
  try clear c17b1
  try clear c20
  try clear c20b0
  try clear c20b1
  try clear c20b2
  obtain ⟨kq, x54_7, rfl, HA, HJ7, HB⟩ := hcut
  cases kq with
  | zero => exact absurd HA.out (by simp [cantonlaw10_LocksRing.j0])
  | succ kj7 =>
   have H := HA.out
   clear HA
   simp only [cantonlaw10_LocksRing.j0] at H
   by_cases c25 : x54_7 = true
   ·subst c25
    have H1 : (some t198) = some r := by rw [if_pos rfl] at H; exact H
    clear H
    have H := H1
    clear H1
    obtain rfl := Option.some.inj H
    go_wp2
    go_ret
    exact ⟨by first | rfl | (simp [errW_none, errW_some] <;> rfl) | (simp [*, errW_none, errW_some] <;> rfl), kZ HB⟩
   ·replace c25 := Bool.eq_false_iff.mpr c25
    subst c25
    have H1 : ((locks_Take.f ([] : List (S34)) (wrap64 (a0)) (wrap64 (a2)) l4).bind fun bt201 => ((locks_Take.f bt201.1 (wrap64 (a1)) (wrap64 (a3)) l5).bind fun bt208 => (if bt201.2.2 = true then (cantonlaw10_LocksRing.j1 kj7 a0 a1 a2 a3 l4 l5 t198 bt208.1 (!bt208.2.2)) else (cantonlaw10_LocksRing.j1 kj7 a0 a1 a2 a3 l4 l5 t198 bt208.1 true)))) = some r := by rw [if_neg (show ¬ (false = true) by decide)] at H; exact H
    clear H
    have H := H1
    clear H1
    replace H := Option.bind_eq_some_iff.mp H
    obtain ⟨⟨t201, t204, t207⟩, A260, H⟩ := H
    replace H : ((locks_Take.f t201 (wrap64 (a1)) (wrap64 (a3)) l5).bind fun bt208 => (if t207 = true then (cantonlaw10_LocksRing.j1 kj7 a0 a1 a2 a3 l4 l5 t198 bt208.1 (!bt208.2.2)) else (cantonlaw10_LocksRing.j1 kj7 a0 a1 a2 a3 l4 l5 t198 bt208.1 true))) = some r := H
    have A26 := Aside0.mk A260
    clear A260
    replace H := Option.bind_eq_some_iff.mp H
    obtain ⟨⟨t208, t211, t214⟩, A270, H⟩ := H
    replace H : (if t207 = true then (cantonlaw10_LocksRing.j1 kj7 a0 a1 a2 a3 l4 l5 t198 t208 (!t214)) else (cantonlaw10_LocksRing.j1 kj7 a0 a1 a2 a3 l4 l5 t198 t208 true)) = some r := H
    have A27 := Aside0.mk A270
    clear A270
    have HC28 := Aside0.mk H
    clear H
    go_upto_region 6 with (first | ((with_reducible refine gate_callee (f := 11) rfl ?_); refine gL (some 62) Try.func11 #[.slice none 0 0, .int .i64 (wrap64 (a0)), .int .i64 (wrap64 (a2)), .slice A4 l4.length c4] rfl rfl ?_; (refine (locks_Take.calls (fun k_ => False) _ _ ([] : List (S34)) (wrap64 (a0)) (wrap64 (a2)) _ _ l4 t201 t204 t207 _ ?side1 ?side2 ?side3 A26.out).mono ?_); (case side1 => exact Kd.V_nil _ _ _ _ _); (case side2 => exact kC ((Kd.C_below HR4.out HB.out))); (case side3 => exact HC4.out); rintro e w29 ⟨v202, v205, rfl, ho0, ho1, hb⟩; refine ⟨_, rfl, ?_⟩; have n0_ := Aside0.mk (Kd.V_lower (Kd.V_mono (ok' := fun k_ => some k_ ≠ (v205 : Value).ownBlock) ho0 (fun k_ hk_ => hk_.2)) (below_size (kZ HB))); have n1_ := Aside0.mk (Kd.R_lower (Kd.R_mono (ok' := fun k_ => True) ho1 (fun _ hk_ => trivial)) (below_size (kZ HB))); have n2_ := Aside0.mk (below_step (kZ HB) hb); clear HB; have HO203 := n0_; have HO206 := n1_; have HB := n2_; clear n0_ n1_ n2_; (try clear hb); (try clear hb2); (try clear hk); (try clear hi); (try clear ho0); (try clear ho1); obtain ⟨Ao30, co30, eo30⟩ := Kd.V_slice HO203.out; subst eo30) | ((with_reducible refine gate_callee (f := 11) rfl ?_); refine gL (some 73) Try.func11 #[.slice Ao30 t201.length co30, .int .i64 (wrap64 (a1)), .int .i64 (wrap64 (a3)), .slice A5 l5.length c5] rfl rfl ?_; (with_reducible refine (locks_Take.calls (fun k_ => some k_ ≠ (v205 : Value).ownBlock) _ _ t201 (wrap64 (a1)) (wrap64 (a3)) _ _ l5 t208 t211 t214 _ ?side1 ?side2 ?side3 A27.out).mono ?_); (case side1 => exact HO203.out); (case side2 => exact kC ((Kd.C_below HR5.out HB.out))); (case side3 => exact HC5.out); rintro e w31 ⟨v209, v212, rfl, ho0, ho1, hb⟩; refine ⟨_, rfl, ?_⟩; have n0_ := Aside0.mk (Kd.V_elder' (by (with_reducible repeat (first | apply Kd.V_alloc | apply Kd.V_drewN | apply Kd.V_drew)); exact HO203.out) (Kd.R_base ho1) hb); have n1_ := Aside0.mk (Kd.R_elder' (kR HO206) (Kd.R_base ho1) hb); have n2_ := Aside0.mk (Kd.V_lower (Kd.V_mono (ok' := fun k_ => some k_ ≠ (v212 : Value).ownBlock ∧ some k_ ≠ (v205 : Value).ownBlock) ho0 (fun k_ hk_ => ⟨hk_.2, Or.elim hk_.1 (fun hs_ => hs_) (fun hn_ => (Kd.fresh' (Kd.R_lt (kR HO206)) k_ hn_))⟩)) (below_size (kZ HB))); have n3_ := Aside0.mk (Kd.R_lower (Kd.R_new' (Kd.R_mono (ok' := fun k_ => True) ho1 (fun _ hk_ => trivial)) (Kd.R_lt (kR HO206))) (below_size (kZ HB))); have n4_ := Aside0.mk (below_step (kZ HB) hb); clear HO203; clear HO206; clear HB; have HO203 := n0_; have HO206 := n1_; have HO210 := n2_; have HO213 := n3_; have HB := n4_; clear n0_ n1_ n2_ n3_ n4_; (try clear hb); (try clear hb2); (try clear hk); (try clear hi); (try clear ho0); (try clear ho1)))
    (try simp only [Act.put, List.setIfInBounds_toArray, List.set_cons_zero, List.set_cons_succ])
    go_cut [82] (fun v82 wc => ∃ (kq : Nat) (x82_27 : Bool), v82 = .bool x82_27 ∧ Aside0 (cantonlaw10_LocksRing.j1 kq a0 a1 a2 a3 l4 l5 t198 t208 x82_27 = some r) ∧ Aside0 (kq ≤ kj7) ∧ Aside0 (Kd.V k34 34 wc w.heap.size (fun _ => True) v209 t208) ∧ Aside0 (Below w.heap.size w wc))
    case first => as_aux_lemma =>
     have H := HC28.out
     clear HC28
     by_cases c32 : t207 = true
     ·subst c32
      have H1 : (cantonlaw10_LocksRing.j1 kj7 a0 a1 a2 a3 l4 l5 t198 t208 (!t214)) = some r := by rw [if_pos rfl] at H; exact H
      clear H
      have H := H1
      clear H1
      have H' := Aside0.mk H
      clear H
      go_wp2
      go_meet
      case rel => exact ⟨_, (!t214), (by first | rfl | (simp; done) | (simp [*]; done)), H', ⟨by have := HJ7.out; first | omega | exact Nat.le_refl _⟩, ⟨by (with_reducible repeat (first | apply Kd.V_alloc | apply Kd.V_drewN | apply Kd.V_drew)); exact Kd.V_mono HO210.out (fun _ hk => trivial)⟩, ⟨kZ HB⟩⟩
     ·replace c32 := Bool.eq_false_iff.mpr c32
      subst c32
      have H1 : (cantonlaw10_LocksRing.j1 kj7 a0 a1 a2 a3 l4 l5 t198 t208 true) = some r := by rw [if_neg (show ¬ (false = true) by decide)] at H; exact H
      clear H
      have H := H1
      clear H1
      have H' := Aside0.mk H
      clear H
      go_wp2
      go_meet
      case rel => exact ⟨_, (true), (by first | rfl | (simp; done) | (simp [*]; done)), H', ⟨by have := HJ7.out; first | omega | exact Nat.le_refl _⟩, ⟨by (with_reducible repeat (first | apply Kd.V_alloc | apply Kd.V_drewN | apply Kd.V_drew)); exact Kd.V_mono HO210.out (fun _ hk => trivial)⟩, ⟨kZ HB⟩⟩
    case rest => as_aux_lemma =>
     clear HC28
     try clear c1
     try clear c2
     try clear p2
     try clear c3
     try clear c4
     try clear c5
     try clear p6
     try clear c8
     try clear c9
     try clear c11
     try clear c14
     try clear c17
     try clear c17b0
     try clear c17b1
     try clear c20
     try clear c20b0
     try clear c20b1
     try clear c20b2
     try clear c25
     try clear c32
     try clear p2
     obtain ⟨kq, x82_27, rfl, HA, HJ27, HO_17, HB⟩ := hcut
     cases kq with
     | zero => exact absurd HA.out (by simp [cantonlaw10_LocksRing.j1])
     | succ kj27 =>
      have H := HA.out
      clear HA
      simp only [cantonlaw10_LocksRing.j1] at H
      by_cases c33 : x82_27 = true
      ·subst c33
       have H1 : (some t198) = some r := by rw [if_pos rfl] at H; exact H
       clear H
       have H := H1
       clear H1
       obtain rfl := Option.some.inj H
       go_wp2
       go_ret
       exact ⟨by first | rfl | (simp [errW_none, errW_some] <;> rfl) | (simp [*, errW_none, errW_some] <;> rfl), kZ HB⟩
      ·replace c33 := Bool.eq_false_iff.mpr c33
       subst c33
       have H1 : ((locks_Take.f t208 (wrap64 (a0)) (wrap64 (a2)) l5).bind fun bt215 => ((locks_Take.f t208 (wrap64 (a1)) (wrap64 (a3)) l4).bind fun bt222 => (if a2 < a3 then (cantonlaw10_LocksRing.j2 kj27 a0 a1 a2 a3 l4 l5 t198 t208 bt215.2.1 bt215.2.2 bt222.2.1 bt222.2.2 true) else (if a2 = a3 then (cantonlaw10_LocksRing.j2 kj27 a0 a1 a2 a3 l4 l5 t198 t208 bt215.2.1 bt215.2.2 bt222.2.1 bt222.2.2 (decide (a0 < a1))) else (cantonlaw10_LocksRing.j2 kj27 a0 a1 a2 a3 l4 l5 t198 t208 bt215.2.1 bt215.2.2 bt222.2.1 bt222.2.2 false))))) = some r := by rw [if_neg (show ¬ (false = true) by decide)] at H; exact H
       clear H
       have H := H1
       clear H1
       replace H := Option.bind_eq_some_iff.mp H
       obtain ⟨⟨t215, t218, t221⟩, A340, H⟩ := H
       replace H : ((locks_Take.f t208 (wrap64 (a1)) (wrap64 (a3)) l4).bind fun bt222 => (if a2 < a3 then (cantonlaw10_LocksRing.j2 kj27 a0 a1 a2 a3 l4 l5 t198 t208 t218 t221 bt222.2.1 bt222.2.2 true) else (if a2 = a3 then (cantonlaw10_LocksRing.j2 kj27 a0 a1 a2 a3 l4 l5 t198 t208 t218 t221 bt222.2.1 bt222.2.2 (decide (a0 < a1))) else (cantonlaw10_LocksRing.j2 kj27 a0 a1 a2 a3 l4 l5 t198 t208 t218 t221 bt222.2.1 bt222.2.2 false)))) = some r := H
       have A34 := Aside0.mk A340
       clear A340
       replace H := Option.bind_eq_some_iff.mp H
       obtain ⟨⟨t222, t225, t228⟩, A350, H⟩ := H
       replace H : (if a2 < a3 then (cantonlaw10_LocksRing.j2 kj27 a0 a1 a2 a3 l4 l5 t198 t208 t218 t221 t225 t228 true) else (if a2 = a3 then (cantonlaw10_LocksRing.j2 kj27 a0 a1 a2 a3 l4 l5 t198 t208 t218 t221 t225 t228 (decide (a0 < a1))) else (cantonlaw10_LocksRing.j2 kj27 a0 a1 a2 a3 l4 l5 t198 t208 t218 t221 t225 t228 false))) = some r := H
       have A35 := Aside0.mk A350
       clear A350
       have HC36 := Aside0.mk H
       clear H
       obtain ⟨Ao37, co37, eo37⟩ := Kd.V_slice HO_17.out
       subst eo37
       go_upto_region 10 with (first | ((with_reducible refine gate_callee (f := 11) rfl ?_); refine gL (some 91) Try.func11 #[.slice Ao37 t208.length co37, .int .i64 (wrap64 (a0)), .int .i64 (wrap64 (a2)), .slice A5 l5.length c5] rfl rfl ?_; (with_reducible refine (locks_Take.calls (fun k_ => True) _ _ t208 (wrap64 (a0)) (wrap64 (a2)) _ _ l5 t215 t218 t221 _ ?side1 ?side2 ?side3 A34.out).mono ?_); (case side1 => exact HO_17.out); (case side2 => exact kC ((Kd.C_below HR5.out HB.out))); (case side3 => exact HC5.out); rintro e w38 ⟨v216, v219, rfl, ho0, ho1, hb⟩; refine ⟨_, rfl, ?_⟩; have n0_ := Aside0.mk (Kd.V_elder' (by (with_reducible repeat (first | apply Kd.V_alloc | apply Kd.V_drewN | apply Kd.V_drew)); exact HO_17.out) (Kd.R_base ho1) hb); have n1_ := Aside0.mk (Kd.V_lower (Kd.V_mono (ok' := fun k_ => some k_ ≠ (v219 : Value).ownBlock) ho0 (fun k_ hk_ => hk_.2)) (below_size (kZ HB))); have n2_ := Aside0.mk (Kd.R_lower (Kd.R_mono (ok' := fun k_ => True) ho1 (fun _ hk_ => trivial)) (below_size (kZ HB))); have n3_ := Aside0.mk (below_step (kZ HB) hb); clear HO_17; clear HB; have HO_17 := n0_; have HO217 := n1_; have HO220 := n2_; have HB := n3_; clear n0_ n1_ n2_ n3_; (try clear hb); (try clear hb2); (try clear hk); (try clear hi); (try clear ho0); (try clear ho1)) | ((with_reducible refine gate_callee (f := 11) rfl ?_); refine gL (some 102) Try.func11 #[.slice Ao37 t208.length co37, .int .i64 (wrap64 (a1)), .int .i64 (wrap64 (a3)), .slice A4 l4.length c4] rfl rfl ?_; (with_reducible refine (locks_Take.calls (fun k_ => (True ∧ some k_ ≠ (v219 : Value).ownBlock)) _ _ t208 (wrap64 (a1)) (wrap64 (a3)) _ _ l4 t222 t225 t228 _ ?side1 ?side2 ?side3 A35.out).mono ?_); (case side1 => exact HO_17.out); (case side2 => exact kC ((Kd.C_below HR4.out HB.out))); (case side3 => exact HC4.out); rintro e w39 ⟨v223, v226, rfl, ho0, ho1, hb⟩; refine ⟨_, rfl, ?_⟩; have n0_ := Aside0.mk (Kd.V_elder' (by (with_reducible repeat (first | apply Kd.V_alloc | apply Kd.V_drewN | apply Kd.V_drew)); exact HO_17.out) (Kd.R_base ho1) hb); have n1_ := Aside0.mk (Kd.V_elder' (by (with_reducible repeat (first | apply Kd.V_alloc | apply Kd.V_drewN | apply Kd.V_drew)); exact HO217.out) (Kd.R_base ho1) hb); have n2_ := Aside0.mk (Kd.R_elder' (kR HO220) (Kd.R_base ho1) hb); have n3_ := Aside0.mk (Kd.V_lower (Kd.V_mono (ok' := fun k_ => some k_ ≠ (v226 : Value).ownBlock ∧ some k_ ≠ (v219 : Value).ownBlock) ho0 (fun k_ hk_ => ⟨hk_.2, Or.elim hk_.1 (fun hs_ => hs_.2) (fun hn_ => (Kd.fresh' (Kd.R_lt (kR HO220)) k_ hn_))⟩)) (below_size (kZ HB))); have n4_ := Aside0.mk (Kd.R_lower (Kd.R_new' (Kd.R_mono (ok' := fun k_ => True) ho1 (fun _ hk_ => trivial)) (Kd.R_lt (kR HO220))) (below_size (kZ HB))); have n5_ := Aside0.mk (below_step (kZ HB) hb); clear HO_17; clear HO217; clear HO220; clear HB; have HO_17 := n0_; have HO217 := n1_; have HO220 := n2_; have HO224 := n3_; have HO227 := n4_; have HB := n5_; clear n0_ n1_ n2_ n3_ n4_ n5_; (try clear hb); (try clear hb2); (try clear hk); (try clear hi); (try clear ho0); (try clear ho1)))
       (try simp only [Act.put, List.setIfInBounds_toArray, List.set_cons_zero, List.set_cons_succ])
       go_cut [26] (fun v26 wc => ∃ (kq : Nat) (x26_35 : Bool), v26 = .bool x26_35 ∧ Aside0 (cantonlaw10_LocksRing.j2 kq a0 a1 a2 a3 l4 l5 t198 t208 t218 t221 t225 t228 x26_35 = some r) ∧ Aside0 (kq ≤ kj27) ∧ Aside0 (Kd.V k34 34 wc w.heap.size (fun k_ => some k_ ≠ (v219 : Value).ownBlock ∧ some k_ ≠ (v226 : Value).ownBlock) (.slice Ao37 t208.length co37) t208) ∧ Aside0 (Kd.R (Kd.int .i64) 2 wc w.heap.size (fun k_ => some k_ ≠ (v226 : Value).ownBlock) v219 t218) ∧ Aside0 (Kd.R (Kd.int .i64) 2 wc w.heap.size (fun k_ => some k_ ≠ (v219 : Value).ownBlock) v226 t225) ∧ Aside0 (Below w.heap.size w wc))
       case first => as_aux_lemma =>
        have H := HC36.out
        clear HC36
        by_cases c40 : a2 < a3
        ·rw [if_pos c40] at H
         have c40b0 : decide (a2 < a3) = true := decide_eq_true c40
         clear c40
         (first | rw [c40b0] | (simp only [i64_w, i32_w]; rw [c40b0]) | skip)
         have H' := Aside0.mk H
         clear H
         go_wp2
         go_meet
         case rel => exact ⟨_, (true), (by first | rfl | (simp; done) | (simp [*]; done)), H', ⟨by have := HJ7.out; have := HJ27.out; first | omega | exact Nat.le_refl _⟩, ⟨by (with_reducible repeat (first | apply Kd.V_alloc | apply Kd.V_drewN | apply Kd.V_drew)); exact Kd.V_mono HO_17.out (fun _ hk => ⟨hk.1.2, hk.2⟩)⟩, ⟨by (with_reducible repeat (first | apply Kd.R_alloc | apply Kd.R_drewN | apply Kd.R_drew)); exact Kd.R_mono HO220.out (fun _ hk => hk.2)⟩, ⟨by (with_reducible repeat (first | apply Kd.R_alloc | apply Kd.R_drewN | apply Kd.R_drew)); exact Kd.R_mono HO227.out (fun _ hk => hk.2)⟩, ⟨kZ HB⟩⟩
        ·rw [if_neg c40] at H
         have c40b0 : decide (a2 < a3) = false := decide_eq_false c40
         clear c40
         (first | rw [c40b0] | (simp only [i64_w, i32_w]; rw [c40b0]) | skip)
         by_cases c41 : a2 = a3
         ·rw [if_pos c41] at H
          have c41b0 : (a2 == a3) = true := beq_iff_eq.mpr c41
          have c41b1 : (a2 != a3) = false := bne_eq_false_iff_eq.mpr c41
          clear c41
          have H' := Aside0.mk H
          clear H
          go_wp2
          go_meet
          case rel => exact ⟨_, (decide (a0 < a1)), (by first | rfl | (simp; done) | (simp [*]; done)), H', ⟨by have := HJ7.out; have := HJ27.out; first | omega | exact Nat.le_refl _⟩, ⟨by (with_reducible repeat (first | apply Kd.V_alloc | apply Kd.V_drewN | apply Kd.V_drew)); exact Kd.V_mono HO_17.out (fun _ hk => ⟨hk.1.2, hk.2⟩)⟩, ⟨by (with_reducible repeat (first | apply Kd.R_alloc | apply Kd.R_drewN | apply Kd.R_drew)); exact Kd.R_mono HO220.out (fun _ hk => hk.2)⟩, ⟨by (with_reducible repeat (first | apply Kd.R_alloc | apply Kd.R_drewN | apply Kd.R_drew)); exact Kd.R_mono HO227.out (fun _ hk => hk.2)⟩, ⟨kZ HB⟩⟩
         ·rw [if_neg c41] at H
          have c41b0 : (a2 == a3) = false := beq_eq_false_iff_ne.mpr c41
          have c41b1 : (a2 != a3) = true := bne_iff_ne.mpr c41
          have H' := Aside0.mk H
          clear H
          go_wp2
          go_meet
          case rel => exact ⟨_, (false), (by first | rfl | (simp; done) | (simp [*]; done)), H', ⟨by have := HJ7.out; have := HJ27.out; first | omega | exact Nat.le_refl _⟩, ⟨by (with_reducible repeat (first | apply Kd.V_alloc | apply Kd.V_drewN | apply Kd.V_drew)); exact Kd.V_mono HO_17.out (fun _ hk => ⟨hk.1.2, hk.2⟩)⟩, ⟨by (with_reducible repeat (first | apply Kd.R_alloc | apply Kd.R_drewN | apply Kd.R_drew)); exact Kd.R_mono HO220.out (fun _ hk => hk.2)⟩, ⟨by (with_reducible repeat (first | apply Kd.R_alloc | apply Kd.R_drewN | apply Kd.R_drew)); exact Kd.R_mono HO227.out (fun _ hk => hk.2)⟩, ⟨kZ HB⟩⟩
       case rest => as_aux_lemma =>
        clear HC36
        try clear c1
        try clear c2
        try clear p2
        try clear c3
        try clear c4
        try clear c5
        try clear p6
        try clear c8
        try clear c9
        try clear c11
        try clear c14
        try clear c17
        try clear c17b0
        try clear c17b1
        try clear c20
        try clear c20b0
        try clear c20b1
        try clear c20b2
        try clear c25
        try clear c32
        try clear c33
        try clear c40
        try clear c40b0
        try clear c41
        try clear c41b0
        try clear c41b1
        try clear p2
        try clear p6
        obtain ⟨kq, x26_35, rfl, HA, HJ35, HO_17, HO_21, HO_24, HB⟩ := hcut
        cases kq with
        | zero => exact absurd HA.out (by simp [cantonlaw10_LocksRing.j2])
        | succ kj35 =>
         have H := HA.out
         clear HA
         simp only [cantonlaw10_LocksRing.j2] at H
         have HC42 := Aside0.mk H
         clear H
         go_upto_region 11 with (fail)
         go_cut [144] (fun v144 wc => ∃ (kq : Nat) (x144_41 : Bool), v144 = .bool x144_41 ∧ Aside0 (cantonlaw10_LocksRing.j3 kq a0 a1 a2 a3 l4 l5 t198 t208 t218 t225 x26_35 x144_41 = some r) ∧ Aside0 (kq ≤ kj35) ∧ Aside0 (Kd.V k34 34 wc w.heap.size (fun k_ => some k_ ≠ (v219 : Value).ownBlock ∧ some k_ ≠ (v226 : Value).ownBlock) (.slice Ao37 t208.length co37) t208) ∧ Aside0 (Kd.R (Kd.int .i64) 2 wc w.heap.size (fun k_ => some k_ ≠ (v226 : Value).ownBlock) v219 t218) ∧ Aside0 (Kd.R (Kd.int .i64) 2 wc w.heap.size (fun k_ => some k_ ≠ (v219 : Value).ownBlock) v226 t225) ∧ Aside0 (Below w.heap.size w wc))
         case first => as_aux_lemma =>
          have H := HC42.out
          clear HC42
          by_cases c43 : t221 = true
          ·subst c43
           have H1 : (cantonlaw10_LocksRing.j3 kj35 a0 a1 a2 a3 l4 l5 t198 t208 t218 t225 x26_35 true) = some r := by rw [if_pos rfl] at H; exact H
           clear H
           have H := H1
           clear H1
           have H' := Aside0.mk H
           clear H
           go_wp2
           go_meet
           case rel => exact ⟨_, (true), (by first | rfl | (simp; done) | (simp [*]; done)), H', ⟨by have := HJ7.out; have := HJ27.out; have := HJ35.out; first | omega | exact Nat.le_refl _⟩, ⟨by (with_reducible repeat (first | apply Kd.V_alloc | apply Kd.V_drewN | apply Kd.V_drew)); exact HO_17.out⟩, ⟨by (with_reducible repeat (first | apply Kd.R_alloc | apply Kd.R_drewN | apply Kd.R_drew)); exact HO_21.out⟩, ⟨by (with_reducible repeat (first | apply Kd.R_alloc | apply Kd.R_drewN | apply Kd.R_drew)); exact HO_24.out⟩, ⟨kZ HB⟩⟩
          ·replace c43 := Bool.eq_false_iff.mpr c43
           subst c43
           have H1 : (if t228 = true then (cantonlaw10_LocksRing.j3 kj35 a0 a1 a2 a3 l4 l5 t198 t208 t218 t225 x26_35 true) else (if (((t218.length : Int) == 1) != x26_35) = true then (cantonlaw10_LocksRing.j3 kj35 a0 a1 a2 a3 l4 l5 t198 t208 t218 t225 x26_35 true) else (if (((t225.length : Int) == 1) == x26_35) = true then (cantonlaw10_LocksRing.j3 kj35 a0 a1 a2 a3 l4 l5 t198 t208 t218 t225 x26_35 true) else (cantonlaw10_LocksRing.j3 kj35 a0 a1 a2 a3 l4 l5 t198 t208 t218 t225 x26_35 ((wrap64 ((t218.length : Int) + (t225.length : Int))) != 1))))) = some r := by rw [if_neg (show ¬ (false = true) by decide)] at H; exact H
           clear H
           have H := H1
           clear H1
           by_cases c44 : t228 = true
           ·subst c44
            have H1 : (cantonlaw10_LocksRing.j3 kj35 a0 a1 a2 a3 l4 l5 t198 t208 t218 t225 x26_35 true) = some r := by rw [if_pos rfl] at H; exact H
            clear H
            have H := H1
            clear H1
            have H' := Aside0.mk H
            clear H
            go_wp2
            go_meet
            case rel => exact ⟨_, (true), (by first | rfl | (simp; done) | (simp [*]; done)), H', ⟨by have := HJ7.out; have := HJ27.out; have := HJ35.out; first | omega | exact Nat.le_refl _⟩, ⟨by (with_reducible repeat (first | apply Kd.V_alloc | apply Kd.V_drewN | apply Kd.V_drew)); exact HO_17.out⟩, ⟨by (with_reducible repeat (first | apply Kd.R_alloc | apply Kd.R_drewN | apply Kd.R_drew)); exact HO_21.out⟩, ⟨by (with_reducible repeat (first | apply Kd.R_alloc | apply Kd.R_drewN | apply Kd.R_drew)); exact HO_24.out⟩, ⟨kZ HB⟩⟩
           ·replace c44 := Bool.eq_false_iff.mpr c44
            subst c44
            have H1 : (if (((t218.length : Int) == 1) != x26_35) = true then (cantonlaw10_LocksRing.j3 kj35 a0 a1 a2 a3 l4 l5 t198 t208 t218 t225 x26_35 true) else (if (((t225.length : Int) == 1) == x26_35) = true then (cantonlaw10_LocksRing.j3 kj35 a0 a1 a2 a3 l4 l5 t198 t208 t218 t225 x26_35 true) else (cantonlaw10_LocksRing.j3 kj35 a0 a1 a2 a3 l4 l5 t198 t208 t218 t225 x26_35 ((wrap64 ((t218.length : Int) + (t225.length : Int))) != 1)))) = some r := by rw [if_neg (show ¬ (false = true) by decide)] at H; exact H
            clear H
            have H := H1
            clear H1
            by_cases c45 : (((t218.length : Int) == 1) != x26_35) = true
            ·rw [if_pos c45] at H
             have c45b0 : (((t218.length : Int) == 1) != x26_35) = true := c45
             (try (have c45b1 : decide (((t218.length : Int) == 1) = x26_35) = false := by simpa using c45))
             (try (have c45b2 : (((t218.length : Int) == 1) == x26_35) = false := by simpa using c45))
             (try (have c45b3 : ¬ (((t218.length : Int) == 1) = x26_35) := by simpa using c45))
             clear c45
             (first | rw [c45b0] | (simp only [i64_w, i32_w]; rw [c45b0]) | skip)
             have H' := Aside0.mk H
             clear H
             obtain ⟨Ao46, co46, eo46⟩ := Kd.R_slice HO_21.out
             subst eo46
             go_wp2
             go_meet
             case rel => exact ⟨_, (true), (by first | rfl | (simp; done) | (simp [*]; done)), H', ⟨by have := HJ7.out; have := HJ27.out; have := HJ35.out; first | omega | exact Nat.le_refl _⟩, ⟨by (with_reducible repeat (first | apply Kd.V_alloc | apply Kd.V_drewN | apply Kd.V_drew)); exact HO_17.out⟩, ⟨by (with_reducible repeat (first | apply Kd.R_alloc | apply Kd.R_drewN | apply Kd.R_drew)); exact HO_21.out⟩, ⟨by (with_reducible repeat (first | apply Kd.R_alloc | apply Kd.R_drewN | apply Kd.R_drew)); exact HO_24.out⟩, ⟨kZ HB⟩⟩
            ·rw [if_neg c45] at H
             have c45b0 : (((t218.length : Int) == 1) != x26_35) = false := by simpa using c45
             (try (have c45b1 : decide (((t218.length : Int) == 1) = x26_35) = true := by simpa using c45))
             (try (have c45b2 : (((t218.length : Int) == 1) == x26_35) = true := by simpa using c45))
             clear c45
             (first | rw [c45b0] | (simp only [i64_w, i32_w]; rw [c45b0]) | skip)
             by_cases c47 : (((t225.length : Int) == 1) == x26_35) = true
             ·rw [if_pos c47] at H
              have c47b0 : (((t225.length : Int) == 1) == x26_35) = true := c47
              (try (have c47b1 : decide (((t225.length : Int) == 1) = x26_35) = true := by simpa using c47))
              (try (have c47b2 : (((t225.length : Int) == 1) == x26_35) = true := by simpa using c47))
              clear c47
              have H' := Aside0.mk H
              clear H
              obtain ⟨Ao48, co48, eo48⟩ := Kd.R_slice HO_21.out
              subst eo48
              obtain ⟨Ao49, co49, eo49⟩ := Kd.R_slice HO_24.out
              subst eo49
              go_wp2
              go_meet
              case rel => exact ⟨_, (true), (by first | rfl | (simp; done) | (simp [*]; done)), H', ⟨by have := HJ7.out; have := HJ27.out; have := HJ35.out; first | omega | exact Nat.le_refl _⟩, ⟨by (with_reducible repeat (first | apply Kd.V_alloc | apply Kd.V_drewN | apply Kd.V_drew)); exact HO_17.out⟩, ⟨by (with_reducible repeat (first | apply Kd.R_alloc | apply Kd.R_drewN | apply Kd.R_drew)); exact HO_21.out⟩, ⟨by (with_reducible repeat (first | apply Kd.R_alloc | apply Kd.R_drewN | apply Kd.R_drew)); exact HO_24.out⟩, ⟨kZ HB⟩⟩
             ·rw [if_neg c47] at H
              have c47b0 : (((t225.length : Int) == 1) == x26_35) = false := by simpa using c47
              (try (have c47b1 : decide (((t225.length : Int) == 1) = x26_35) = false := by simpa using c47))
              (try (have c47b2 : (((t225.length : Int) == 1) == x26_35) = false := by simpa using c47))
              (try (have c47b3 : ¬ (((t225.length : Int) == 1) = x26_35) := by simpa using c47))
              clear c47
              have H' := Aside0.mk H
              clear H
              obtain ⟨Ao50, co50, eo50⟩ := Kd.R_slice HO_21.out
              subst eo50
              obtain ⟨Ao51, co51, eo51⟩ := Kd.R_slice HO_24.out
              subst eo51
              go_wp2
              go_meet
              case rel => exact ⟨_, (((wrap64 ((t218.length : Int) + (t225.length : Int))) != 1)), (by first | rfl | (simp; done) | (simp [*]; done)), H', ⟨by have := HJ7.out; have := HJ27.out; have := HJ35.out; first | omega | exact Nat.le_refl _⟩, ⟨by (with_reducible repeat (first | apply Kd.V_alloc | apply Kd.V_drewN | apply Kd.V_drew)); exact HO_17.out⟩, ⟨by (with_reducible repeat (first | apply Kd.R_alloc | apply Kd.R_drewN | apply Kd.R_drew)); exact HO_21.out⟩, ⟨by (with_reducible repeat (first | apply Kd.R_alloc | apply Kd.R_drewN | apply Kd.R_drew)); exact HO_24.out⟩, ⟨kZ HB⟩⟩
         case rest => as_aux_lemma =>
          clear HC42
          try clear c1
          try clear c2
          try clear p2
          try clear c3
          try clear c4
          try clear c5
          try clear p6
          try clear c8
          try clear c9
          try clear c11
          try clear c14
          try clear c17
          try clear c17b0
          try clear c17b1
          try clear c20
          try clear c20b0
          try clear c20b1
          try clear c20b2
          try clear c25
          try clear c32
          try clear c33
          try clear c40
          try clear c40b0
          try clear c41
          try clear c41b0
          try clear c41b1
          try clear c43
          try clear c44
          try clear c45
          try clear c45b0
          try clear c45b1
          try clear c45b2
          try clear c47
          try clear c47b0
          try clear c47b1
          try clear c47b2
          try clear p2
          try clear p6
          obtain ⟨kq, x144_41, rfl, HA, HJ41, HO_17, HO_21, HO_24, HB⟩ := hcut
          cases kq with
          | zero => exact absurd HA.out (by simp [cantonlaw10_LocksRing.j3])
          | succ kj41 =>
           have H := HA.out
           clear HA
           simp only [cantonlaw10_LocksRing.j3] at H
           by_cases c52 : x144_41 = true
           ·subst c52
            have H1 : (some false) = some r := by rw [if_pos rfl] at H; exact H
            clear H
            have H := H1
            clear H1
            obtain rfl := Option.some.inj H
            go_wp2
            go_ret
            exact ⟨by first | rfl | (simp [errW_none, errW_some] <;> rfl) | (simp [*, errW_none, errW_some] <;> rfl), kZ HB⟩
           ·replace c52 := Bool.eq_false_iff.mpr c52
            subst c52
            have H1 : (if x26_35 = true then ((locks_Free.f t208 (wrap64 (a1))).bind fun t229 => ((locks_Take.f t229 (wrap64 (a0)) (wrap64 (a2)) l5).bind fun bt232 => (if t198 = true then (if bt232.2.2 = true then (if 0 < (t218.length : Int) then (some ((rd t218 0) == (wrap64 (a1)))) else (none)) else (some false)) else (some false)))) else ((locks_Free.f t208 (wrap64 (a0))).bind fun t240 => ((locks_Take.f t240 (wrap64 (a1)) (wrap64 (a3)) l4).bind fun bt243 => (if t198 = true then (if bt243.2.2 = true then (if 0 < (t225.length : Int) then (some ((rd t225 0) == (wrap64 (a0)))) else (none)) else (some false)) else (some false))))) = some r := by rw [if_neg (show ¬ (false = true) by decide)] at H; exact H
            clear H
            have H := H1
            clear H1
            by_cases c53 : x26_35 = true
            ·subst c53
             have H1 : ((locks_Free.f t208 (wrap64 (a1))).bind fun t229 => ((locks_Take.f t229 (wrap64 (a0)) (wrap64 (a2)) l5).bind fun bt232 => (if t198 = true then (if bt232.2.2 = true then (if 0 < (t218.length : Int) then (some ((rd t218 0) == (wrap64 (a1)))) else (none)) else (some false)) else (some false)))) = some r := by rw [if_pos rfl] at H; exact H
             clear H
             have H := H1
             clear H1
             replace H := Option.bind_eq_some_iff.mp H
             obtain ⟨t229, A540, H⟩ := H
             replace H : ((locks_Take.f t229 (wrap64 (a0)) (wrap64 (a2)) l5).bind fun bt232 => (if t198 = true then (if bt232.2.2 = true then (if 0 < (t218.length : Int) then (some ((rd t218 0) == (wrap64 (a1)))) else (none)) else (some false)) else (some false))) = some r := H
             have A54 := Aside0.mk A540
             clear A540
             replace H := Option.bind_eq_some_iff.mp H
             obtain ⟨⟨t232, t235, t238⟩, A550, H⟩ := H
             replace H : (if t198 = true then (if t238 = true then (if 0 < (t218.length : Int) then (some ((rd t218 0) == (wrap64 (a1)))) else (none)) else (some false)) else (some false)) = some r := H
             have A55 := Aside0.mk A550
             clear A550
             by_cases c56 : t198 = true
             ·subst c56
              have H1 : (if t238 = true then (if 0 < (t218.length : Int) then (some ((rd t218 0) == (wrap64 (a1)))) else (none)) else (some false)) = some r := by rw [if_pos rfl] at H; exact H
              clear H
              have H := H1
              clear H1
              by_cases c57 : t238 = true
              ·subst c57
               have H1 : (if 0 < (t218.length : Int) then (some ((rd t218 0) == (wrap64 (a1)))) else (none)) = some r := by rw [if_pos rfl] at H; exact H
               clear H
               have H := H1
               clear H1
               by_cases c58 : 0 < (t218.length : Int)
               ·rw [if_pos c58] at H
                have c58b0 : decide (0 < (t218.length : Int)) = true := decide_eq_true c58
                have c58b1 : decide (0 < t218.length) = true := decide_eq_true (by omega)
                clear c58
                obtain rfl := Option.some.inj H
                go_wp2_with (first | ((with_reducible refine gate_callee (f := 14) rfl ?_); refine gL (some 150) Try.func14 #[.slice Ao37 t208.length co37, .int .i64 (wrap64 (a1))] rfl rfl ?_; (with_reducible refine (locks_Free.calls _ _ t208 (wrap64 (a1)) t229 _ ?side1 ?side2 A54.out).mono ?_); (case side1 => exact kC ((Kd.V_reads' HO_17.out).2.2)); (case side2 => exact (Kd.V_reads' HO_17.out).2.1); rintro e w59 ⟨v230, rfl, ho0, hb⟩; refine ⟨_, rfl, ?_⟩; have n0_ := Aside0.mk (Kd.V_elder' (by (with_reducible repeat (first | apply Kd.V_alloc | apply Kd.V_drewN | apply Kd.V_drew)); exact HO_17.out) (Kd.R_base ho0) hb); have n1_ := Aside0.mk (Kd.R_below (kR HO_21) hb); have n2_ := Aside0.mk (Kd.R_below (kR HO_24) hb); have n3_ := Aside0.mk (Kd.R_lower ho0 (below_size (kZ HB))); have n4_ := Aside0.mk (below_step (kZ HB) hb); clear HO_17; clear HO_21; clear HO_24; clear HB; have HO_17 := n0_; have HO_21 := n1_; have HO_24 := n2_; have HO231 := n3_; have HB := n4_; clear n0_ n1_ n2_ n3_ n4_; (try clear hb); (try clear hb2); (try clear hk); (try clear hi); (try clear ho0); obtain ⟨Ao60, co60, eo60⟩ := Kd.R_slice HO231.out; subst eo60) | ((with_reducible refine gate_callee (f := 11) rfl ?_); refine gL (some 156) Try.func11 #[.slice Ao60 t229.length co60, .int .i64 (wrap64 (a0)), .int .i64 (wrap64 (a2)), .slice A5 l5.length c5] rfl rfl ?_; (with_reducible refine (locks_Take.calls (fun k_ => some k_ = (.slice Ao60 t229.length co60 : Value).ownBlock) _ _ t229 (wrap64 (a0)) (wrap64 (a2)) _ _ l5 t232 t235 true _ ?side1 ?side2 ?side3 A55.out).mono ?_); (case side1 => exact Kd.R_V (Kd.R_tight rfl (Kd.R_apart' (Kd.R_apart' (HO231.out) (Kd.R_typed HO_21.out) (by decide)) (Kd.R_typed HO_24.out) (by decide)))); (case side2 => exact kC ((Kd.C_below HR5.out HB.out))); (case side3 => exact HC5.out); rintro e w61 ⟨v233, v236, rfl, ho0, ho1, hb⟩; refine ⟨_, rfl, ?_⟩; have n0_ := Aside0.mk (Kd.V_elder' (by (with_reducible repeat (first | apply Kd.V_alloc | apply Kd.V_drewN | apply Kd.V_drew)); exact HO_17.out) (Kd.R_base ho1) hb); have n1_ := Aside0.mk (Kd.R_elder' (kR HO_21) (Kd.R_base ho1) hb); have n2_ := Aside0.mk (Kd.R_elder' (kR HO_24) (Kd.R_base ho1) hb); have n3_ := Aside0.mk (Kd.R_below (kR HO231) hb); have n4_ := Aside0.mk (Kd.V_lower (Kd.V_mono (ok' := fun k_ => some k_ ≠ (v236 : Value).ownBlock ∧ some k_ ≠ (v219 : Value).ownBlock ∧ some k_ ≠ (v226 : Value).ownBlock) ho0 (fun k_ hk_ => ⟨hk_.2, Or.elim hk_.1 (fun hs_ => ((Kd.R_apart' (Kd.R_apart' (HO231.out) (Kd.R_typed HO_21.out) (by decide)) (Kd.R_typed HO_24.out) (by decide)).1 k_ hs_.symm).1.2) (fun hn_ => (Kd.fresh' (Kd.R_lt (kR HO_21)) k_ hn_)), Or.elim hk_.1 (fun hs_ => ((Kd.R_apart' (Kd.R_apart' (HO231.out) (Kd.R_typed HO_21.out) (by decide)) (Kd.R_typed HO_24.out) (by decide)).1 k_ hs_.symm).2) (fun hn_ => (Kd.fresh' (Kd.R_lt (kR HO_24)) k_ hn_))⟩)) (below_size (kZ HB))); have n5_ := Aside0.mk (Kd.R_lower (Kd.R_new' (Kd.R_new' (Kd.R_mono (ok' := fun k_ => True) ho1 (fun _ hk_ => trivial)) (Kd.R_lt (kR HO_21))) (Kd.R_lt (kR HO_24))) (below_size (kZ HB))); have n6_ := Aside0.mk (below_step (kZ HB) hb); clear HO_17; clear HO_21; clear HO_24; clear HO231; clear HB; have HO_17 := n0_; have HO_21 := n1_; have HO_24 := n2_; have HO231 := n3_; have HO234 := n4_; have HO237 := n5_; have HB := n6_; clear n0_ n1_ n2_ n3_ n4_ n5_ n6_; (try clear hb); (try clear hb2); (try clear hk); (try clear hi); (try clear ho0); (try clear ho1); obtain ⟨Ao62, co62, eo62⟩ := Kd.R_slice HO_21.out; subst eo62; have p239 : 0 ≤ (0 : Int) := (by omega); have q239 : 0 < (t218.length : Int) := of_decide_eq_true (by first | (with_reducible assumption) | assumption); obtain ⟨ad239, e239, hx239_0⟩ := Kd.at_int (Kd.R_reads' HO_21.out).2.2 0 p239 q239; cases e239; have qi239 : (0 < t218.length) = True := eq_true (by omega); (try rw [show ((0 : Int)).toNat = 0 from rfl] at hx239_0); (try rw [Addr.add_zero'] at hx239_0); replace p239 := eq_true p239; replace q239 := eq_true q239))
                go_ret
                exact ⟨by first | rfl | (simp [errW_none, errW_some] <;> rfl) | (simp [*, errW_none, errW_some] <;> rfl), kZ HB⟩
               ·rw [if_neg c58] at H
                exact absurd H (by simp)
              ·replace c57 := Bool.eq_false_iff.mpr c57
               subst c57
               have H1 : (some false) = some r := by rw [if_neg (show ¬ (false = true) by decide)] at H; exact H
               clear H
               have H := H1
               clear H1
               obtain rfl := Option.some.inj H
               go_wp2_with (first | ((with_reducible refine gate_callee (f := 14) rfl ?_); refine gL (some 150) Try.func14 #[.slice Ao37 t208.length co37, .int .i64 (wrap64 (a1))] rfl rfl ?_; (with_reducible refine (locks_Free.calls _ _ t208 (wrap64 (a1)) t229 _ ?side1 ?side2 A54.out).mono ?_); (case side1 => exact kC ((Kd.V_reads' HO_17.out).2.2)); (case side2 => exact (Kd.V_reads' HO_17.out).2.1); rintro e w63 ⟨v230, rfl, ho0, hb⟩; refine ⟨_, rfl, ?_⟩; have n0_ := Aside0.mk (Kd.V_elder' (by (with_reducible repeat (first | apply Kd.V_alloc | apply Kd.V_drewN | apply Kd.V_drew)); exact HO_17.out) (Kd.R_base ho0) hb); have n1_ := Aside0.mk (Kd.R_below (kR HO_21) hb); have n2_ := Aside0.mk (Kd.R_below (kR HO_24) hb); have n3_ := Aside0.mk (Kd.R_lower ho0 (below_size (kZ HB))); have n4_ := Aside0.mk (below_step (kZ HB) hb); clear HO_17; clear HO_21; clear HO_24; clear HB; have HO_17 := n0_; have HO_21 := n1_; have HO_24 := n2_; have HO231 := n3_; have HB := n4_; clear n0_ n1_ n2_ n3_ n4_; (try clear hb); (try clear hb2); (try clear hk); (try clear hi); (try clear ho0); obtain ⟨Ao64, co64, eo64⟩ := Kd.R_slice HO231.out; subst eo64) | ((with_reducible refine gate_callee (f := 11) rfl ?_); refine gL (some 156) Try.func11 #[.slice Ao64 t229.length co64, .int .i64 (wrap64 (a0)), .int .i64 (wrap64 (a2)), .slice A5 l5.length c5] rfl rfl ?_; (with_reducible refine (locks_Take.calls (fun k_ => some k_ = (.slice Ao64 t229.length co64 : Value).ownBlock) _ _ t229 (wrap64 (a0)) (wrap64 (a2)) _ _ l5 t232 t235 false _ ?side1 ?side2 ?side3 A55.out).mono ?_); (case side1 => exact Kd.R_V (Kd.R_tight rfl (Kd.R_apart' (Kd.R_apart' (HO231.out) (Kd.R_typed HO_21.out) (by decide)) (Kd.R_typed HO_24.out) (by decide)))); (case side2 => exact kC ((Kd.C_below HR5.out HB.out))); (case side3 => exact HC5.out); rintro e w65 ⟨v233, v236, rfl, ho0, ho1, hb⟩; refine ⟨_, rfl, ?_⟩; have n0_ := Aside0.mk (Kd.V_elder' (by (with_reducible repeat (first | apply Kd.V_alloc | apply Kd.V_drewN | apply Kd.V_drew)); exact HO_17.out) (Kd.R_base ho1) hb); have n1_ := Aside0.mk (Kd.R_elder' (kR HO_21) (Kd.R_base ho1) hb); have n2_ := Aside0.mk (Kd.R_elder' (kR HO_24) (Kd.R_base ho1) hb); have n3_ := Aside0.mk (Kd.R_below (kR HO231) hb); have n4_ := Aside0.mk (Kd.V_lower (Kd.V_mono (ok' := fun k_ => some k_ ≠ (v236 : Value).ownBlock ∧ some k_ ≠ (v219 : Value).ownBlock ∧ some k_ ≠ (v226 : Value).ownBlock) ho0 (fun k_ hk_ => ⟨hk_.2, Or.elim hk_.1 (fun hs_ => ((Kd.R_apart' (Kd.R_apart' (HO231.out) (Kd.R_typed HO_21.out) (by decide)) (Kd.R_typed HO_24.out) (by decide)).1 k_ hs_.symm).1.2) (fun hn_ => (Kd.fresh' (Kd.R_lt (kR HO_21)) k_ hn_)), Or.elim hk_.1 (fun hs_ => ((Kd.R_apart' (Kd.R_apart' (HO231.out) (Kd.R_typed HO_21.out) (by decide)) (Kd.R_typed HO_24.out) (by decide)).1 k_ hs_.symm).2) (fun hn_ => (Kd.fresh' (Kd.R_lt (kR HO_24)) k_ hn_))⟩)) (below_size (kZ HB))); have n5_ := Aside0.mk (Kd.R_lower (Kd.R_new' (Kd.R_new' (Kd.R_mono (ok' := fun k_ => True) ho1 (fun _ hk_ => trivial)) (Kd.R_lt (kR HO_21))) (Kd.R_lt (kR HO_24))) (below_size (kZ HB))); have n6_ := Aside0.mk (below_step (kZ HB) hb); clear HO_17; clear HO_21; clear HO_24; clear HO231; clear HB; have HO_17 := n0_; have HO_21 := n1_; have HO_24 := n2_; have HO231 := n3_; have HO234 := n4_; have HO237 := n5_; have HB := n6_; clear n0_ n1_ n2_ n3_ n4_ n5_ n6_; (try clear hb); (try clear hb2); (try clear hk); (try clear hi); (try clear ho0); (try clear ho1)))
               go_ret
               exact ⟨by first | rfl | (simp [errW_none, errW_some] <;> rfl) | (simp [*, errW_none, errW_some] <;> rfl), kZ HB⟩
             ·replace c56 := Bool.eq_false_iff.mpr c56
              subst c56
              have H1 : (some false) = some r := by rw [if_neg (show ¬ (false = true) by decide)] at H; exact H
              clear H
              have H := H1
              clear H1
              obtain rfl := Option.some.inj H
              go_wp2_with (first | ((with_reducible refine gate_callee (f := 14) rfl ?_); refine gL (some 150) Try.func14 #[.slice Ao37 t208.length co37, .int .i64 (wrap64 (a1))] rfl rfl ?_; (with_reducible refine (locks_Free.calls _ _ t208 (wrap64 (a1)) t229 _ ?side1 ?side2 A54.out).mono ?_); (case side1 => exact kC ((Kd.V_reads' HO_17.out).2.2)); (case side2 => exact (Kd.V_reads' HO_17.out).2.1); rintro e w66 ⟨v230, rfl, ho0, hb⟩; refine ⟨_, rfl, ?_⟩; have n0_ := Aside0.mk (Kd.V_elder' (by (with_reducible repeat (first | apply Kd.V_alloc | apply Kd.V_drewN | apply Kd.V_drew)); exact HO_17.out) (Kd.R_base ho0) hb); have n1_ := Aside0.mk (Kd.R_below (kR HO_21) hb); have n2_ := Aside0.mk (Kd.R_below (kR HO_24) hb); have n3_ := Aside0.mk (Kd.R_lower ho0 (below_size (kZ HB))); have n4_ := Aside0.mk (below_step (kZ HB) hb); clear HO_17; clear HO_21; clear HO_24; clear HB; have HO_17 := n0_; have HO_21 := n1_; have HO_24 := n2_; have HO231 := n3_; have HB := n4_; clear n0_ n1_ n2_ n3_ n4_; (try clear hb); (try clear hb2); (try clear hk); (try clear hi); (try clear ho0); obtain ⟨Ao67, co67, eo67⟩ := Kd.R_slice HO231.out; subst eo67) | ((with_reducible refine gate_callee (f := 11) rfl ?_); refine gL (some 156) Try.func11 #[.slice Ao67 t229.length co67, .int .i64 (wrap64 (a0)), .int .i64 (wrap64 (a2)), .slice A5 l5.length c5] rfl rfl ?_; (with_reducible refine (locks_Take.calls (fun k_ => some k_ = (.slice Ao67 t229.length co67 : Value).ownBlock) _ _ t229 (wrap64 (a0)) (wrap64 (a2)) _ _ l5 t232 t235 t238 _ ?side1 ?side2 ?side3 A55.out).mono ?_); (case side1 => exact Kd.R_V (Kd.R_tight rfl (Kd.R_apart' (Kd.R_apart' (HO231.out) (Kd.R_typed HO_21.out) (by decide)) (Kd.R_typed HO_24.out) (by decide)))); (case side2 => exact kC ((Kd.C_below HR5.out HB.out))); (case side3 => exact HC5.out); rintro e w68 ⟨v233, v236, rfl, ho0, ho1, hb⟩; refine ⟨_, rfl, ?_⟩; have n0_ := Aside0.mk (Kd.V_elder' (by (with_reducible repeat (first | apply Kd.V_alloc | apply Kd.V_drewN | apply Kd.V_drew)); exact HO_17.out) (Kd.R_base ho1) hb); have n1_ := Aside0.mk (Kd.R_elder' (kR HO_21) (Kd.R_base ho1) hb); have n2_ := Aside0.mk (Kd.R_elder' (kR HO_24) (Kd.R_base ho1) hb); have n3_ := Aside0.mk (Kd.R_below (kR HO231) hb); have n4_ := Aside0.mk (Kd.V_lower (Kd.V_mono (ok' := fun k_ => some k_ ≠ (v236 : Value).ownBlock ∧ some k_ ≠ (v219 : Value).ownBlock ∧ some k_ ≠ (v226 : Value).ownBlock) ho0 (fun k_ hk_ => ⟨hk_.2, Or.elim hk_.1 (fun hs_ => ((Kd.R_apart' (Kd.R_apart' (HO231.out) (Kd.R_typed HO_21.out) (by decide)) (Kd.R_typed HO_24.out) (by decide)).1 k_ hs_.symm).1.2) (fun hn_ => (Kd.fresh' (Kd.R_lt (kR HO_21)) k_ hn_)), Or.elim hk_.1 (fun hs_ => ((Kd.R_apart' (Kd.R_apart' (HO231.out) (Kd.R_typed HO_21.out) (by decide)) (Kd.R_typed HO_24.out) (by decide)).1 k_ hs_.symm).2) (fun hn_ => (Kd.fresh' (Kd.R_lt (kR HO_24)) k_ hn_))⟩)) (below_size (kZ HB))); have n5_ := Aside0.mk (Kd.R_lower (Kd.R_new' (Kd.R_new' (Kd.R_mono (ok' := fun k_ => True) ho1 (fun _ hk_ => trivial)) (Kd.R_lt (kR HO_21))) (Kd.R_lt (kR HO_24))) (below_size (kZ HB))); have n6_ := Aside0.mk (below_step (kZ HB) hb); clear HO_17; clear HO_21; clear HO_24; clear HO231; clear HB; have HO_17 := n0_; have HO_21 := n1_; have HO_24 := n2_; have HO231 := n3_; have HO234 := n4_; have HO237 := n5_; have HB := n6_; clear n0_ n1_ n2_ n3_ n4_ n5_ n6_; (try clear hb); (try clear hb2); (try clear hk); (try clear hi); (try clear ho0); (try clear ho1)))
              go_ret
              exact ⟨by first | rfl | (simp [errW_none, errW_some] <;> rfl) | (simp [*, errW_none, errW_some] <;> rfl), kZ HB⟩
            ·replace c53 := Bool.eq_false_iff.mpr c53
             subst c53
             have H1 : ((locks_Free.f t208 (wrap64 (a0))).bind fun t240 => ((locks_Take.f t240 (wrap64 (a1)) (wrap64 (a3)) l4).bind fun bt243 => (if t198 = true then (if bt243.2.2 = true then (if 0 < (t225.length : Int) then (some ((rd t225 0) == (wrap64 (a0)))) else (none)) else (some false)) else (some false)))) = some r := by rw [if_neg (show ¬ (false = true) by decide)] at H; exact H
             clear H
             have H := H1
             clear H1
             replace H := Option.bind_eq_some_iff.mp H
             obtain ⟨t240, A690, H⟩ := H
             replace H : ((locks_Take.f t240 (wrap64 (a1)) (wrap64 (a3)) l4).bind fun bt243 => (if t198 = true then (if bt243.2.2 = true then (if 0 < (t225.length : Int) then (some ((rd t225 0) == (wrap64 (a0)))) else (none)) else (some false)) else (some false))) = some r := H
             have A69 := Aside0.mk A690
             clear A690
             replace H := Option.bind_eq_some_iff.mp H
             obtain ⟨⟨t243, t246, t249⟩, A700, H⟩ := H
             replace H : (if t198 = true then (if t249 = true then (if 0 < (t225.length : Int) then (some ((rd t225 0) == (wrap64 (a0)))) else (none)) else (some false)) else (some false)) = some r := H
             have A70 := Aside0.mk A700
             clear A700
             by_cases c71 : t198 = true
             ·subst c71
              have H1 : (if t249 = true then (if 0 < (t225.length : Int) then (some ((rd t225 0) == (wrap64 (a0)))) else (none)) else (some false)) = some r := by rw [if_pos rfl] at H; exact H
              clear H
              have H := H1
              clear H1
              by_cases c72 : t249 = true
              ·subst c72
               have H1 : (if 0 < (t225.length : Int) then (some ((rd t225 0) == (wrap64 (a0)))) else (none)) = some r := by rw [if_pos rfl] at H; exact H
               clear H
               have H := H1
               clear H1
               by_cases c73 : 0 < (t225.length : Int)
               ·rw [if_pos c73] at H
                have c73b0 : decide (0 < (t225.length : Int)) = true := decide_eq_true c73
                have c73b1 : decide (0 < t225.length) = true := decide_eq_true (by omega)
                clear c73
                obtain rfl := Option.some.inj H
                go_wp2_with (first | ((with_reducible refine gate_callee (f := 14) rfl ?_); refine gL (some 176) Try.func14 #[.slice Ao37 t208.length co37, .int .i64 (wrap64 (a0))] rfl rfl ?_; (with_reducible refine (locks_Free.calls _ _ t208 (wrap64 (a0)) t240 _ ?side1 ?side2 A69.out).mono ?_); (case side1 => exact kC ((Kd.V_reads' HO_17.out).2.2)); (case side2 => exact (Kd.V_reads' HO_17.out).2.1); rintro e w74 ⟨v241, rfl, ho0, hb⟩; refine ⟨_, rfl, ?_⟩; have n0_ := Aside0.mk (Kd.V_elder' (by (with_reducible repeat (first | apply Kd.V_alloc | apply Kd.V_drewN | apply Kd.V_drew)); exact HO_17.out) (Kd.R_base ho0) hb); have n1_ := Aside0.mk (Kd.R_below (kR HO_21) hb); have n2_ := Aside0.mk (Kd.R_below (kR HO_24) hb); have n3_ := Aside0.mk (Kd.R_lower ho0 (below_size (kZ HB))); have n4_ := Aside0.mk (below_step (kZ HB) hb); clear HO_17; clear HO_21; clear HO_24; clear HB; have HO_17 := n0_; have HO_21 := n1_; have HO_24 := n2_; have HO242 := n3_; have HB := n4_; clear n0_ n1_ n2_ n3_ n4_; (try clear hb); (try clear hb2); (try clear hk); (try clear hi); (try clear ho0); obtain ⟨Ao75, co75, eo75⟩ := Kd.R_slice HO242.out; subst eo75) | ((with_reducible refine gate_callee (f := 11) rfl ?_); refine gL (some 182) Try.func11 #[.slice Ao75 t240.length co75, .int .i64 (wrap64 (a1)), .int .i64 (wrap64 (a3)), .slice A4 l4.length c4] rfl rfl ?_; (with_reducible refine (locks_Take.calls (fun k_ => some k_ = (.slice Ao75 t240.length co75 : Value).ownBlock) _ _ t240 (wrap64 (a1)) (wrap64 (a3)) _ _ l4 t243 t246 true _ ?side1 ?side2 ?side3 A70.out).mono ?_); (case side1 => exact Kd.R_V (Kd.R_tight rfl (Kd.R_apart' (Kd.R_apart' (HO242.out) (Kd.R_typed HO_21.out) (by decide)) (Kd.R_typed HO_24.out) (by decide)))); (case side2 => exact kC ((Kd.C_below HR4.out HB.out))); (case side3 => exact HC4.out); rintro e w76 ⟨v244, v247, rfl, ho0, ho1, hb⟩; refine ⟨_, rfl, ?_⟩; have n0_ := Aside0.mk (Kd.V_elder' (by (with_reducible repeat (first | apply Kd.V_alloc | apply Kd.V_drewN | apply Kd.V_drew)); exact HO_17.out) (Kd.R_base ho1) hb); have n1_ := Aside0.mk (Kd.R_elder' (kR HO_21) (Kd.R_base ho1) hb); have n2_ := Aside0.mk (Kd.R_elder' (kR HO_24) (Kd.R_base ho1) hb); have n3_ := Aside0.mk (Kd.R_below (kR HO242) hb); have n4_ := Aside0.mk (Kd.V_lower (Kd.V_mono (ok' := fun k_ => some k_ ≠ (v247 : Value).ownBlock ∧ some k_ ≠ (v219 : Value).ownBlock ∧ some k_ ≠ (v226 : Value).ownBlock) ho0 (fun k_ hk_ => ⟨hk_.2, Or.elim hk_.1 (fun hs_ => ((Kd.R_apart' (Kd.R_apart' (HO242.out) (Kd.R_typed HO_21.out) (by decide)) (Kd.R_typed HO_24.out) (by decide)).1 k_ hs_.symm).1.2) (fun hn_ => (Kd.fresh' (Kd.R_lt (kR HO_21)) k_ hn_)), Or.elim hk_.1 (fun hs_ => ((Kd.R_apart' (Kd.R_apart' (HO242.out) (Kd.R_typed HO_21.out) (by decide)) (Kd.R_typed HO_24.out) (by decide)).1 k_ hs_.symm).2) (fun hn_ => (Kd.fresh' (Kd.R_lt (kR HO_24)) k_ hn_))⟩)) (below_size (kZ HB))); have n5_ := Aside0.mk (Kd.R_lower (Kd.R_new' (Kd.R_new' (Kd.R_mono (ok' := fun k_ => True) ho1 (fun _ hk_ => trivial)) (Kd.R_lt (kR HO_21))) (Kd.R_lt (kR HO_24))) (below_size (kZ HB))); have n6_ := Aside0.mk (below_step (kZ HB) hb); clear HO_17; clear HO_21; clear HO_24; clear HO242; clear HB; have HO_17 := n0_; have HO_21 := n1_; have HO_24 := n2_; have HO242 := n3_; have HO245 := n4_; have HO248 := n5_; have HB := n6_; clear n0_ n1_ n2_ n3_ n4_ n5_ n6_; (try clear hb); (try clear hb2); (try clear hk); (try clear hi); (try clear ho0); (try clear ho1); obtain ⟨Ao77, co77, eo77⟩ := Kd.R_slice HO_24.out; subst eo77; have p250 : 0 ≤ (0 : Int) := (by omega); have q250 : 0 < (t225.length : Int) := of_decide_eq_true (by first | (with_reducible assumption) | assumption); obtain ⟨ad250, e250, hx250_0⟩ := Kd.at_int (Kd.R_reads' HO_24.out).2.2 0 p250 q250; cases e250; have qi250 : (0 < t225.length) = True := eq_true (by omega); (try rw [show ((0 : Int)).toNat = 0 from rfl] at hx250_0); (try rw [Addr.add_zero'] at hx250_0); replace p250 := eq_true p250; replace q250 := eq_true q250))
                go_ret
                exact ⟨by first | rfl | (simp [errW_none, errW_some] <;> rfl) | (simp [*, errW_none, errW_some] <;> rfl), kZ HB⟩
               ·rw [if_neg c73] at H
                exact absurd H (by simp)
              ·replace c72 := Bool.eq_false_iff.mpr c72
               subst c72
               have H1 : (some false) = some r := by rw [if_neg (show ¬ (false = true) by decide)] at H; exact H
               clear H
               have H := H1
               clear H1
               obtain rfl := Option.some.inj H
               go_wp2_with (first | ((with_reducible refine gate_callee (f := 14) rfl ?_); refine gL (some 176) Try.func14 #[.slice Ao37 t208.length co37, .int .i64 (wrap64 (a0))] rfl rfl ?_; (with_reducible refine (locks_Free.calls _ _ t208 (wrap64 (a0)) t240 _ ?side1 ?side2 A69.out).mono ?_); (case side1 => exact kC ((Kd.V_reads' HO_17.out).2.2)); (case side2 => exact (Kd.V_reads' HO_17.out).2.1); rintro e w78 ⟨v241, rfl, ho0, hb⟩; refine ⟨_, rfl, ?_⟩; have n0_ := Aside0.mk (Kd.V_elder' (by (with_reducible repeat (first | apply Kd.V_alloc | apply Kd.V_drewN | apply Kd.V_drew)); exact HO_17.out) (Kd.R_base ho0) hb); have n1_ := Aside0.mk (Kd.R_below (kR HO_21) hb); have n2_ := Aside0.mk (Kd.R_below (kR HO_24) hb); have n3_ := Aside0.mk (Kd.R_lower ho0 (below_size (kZ HB))); have n4_ := Aside0.mk (below_step (kZ HB) hb); clear HO_17; clear HO_21; clear HO_24; clear HB; have HO_17 := n0_; have HO_21 := n1_; have HO_24 := n2_; have HO242 := n3_; have HB := n4_; clear n0_ n1_ n2_ n3_ n4_; (try clear hb); (try clear hb2); (try clear hk); (try clear hi); (try clear ho0); obtain ⟨Ao79, co79, eo79⟩ := Kd.R_slice HO242.out; subst eo79) | ((with_reducible refine gate_callee (f := 11) rfl ?_); refine gL (some 182) Try.func11 #[.slice Ao79 t240.length co79, .int .i64 (wrap64 (a1)), .int .i64 (wrap64 (a3)), .slice A4 l4.length c4] rfl rfl ?_; (with_reducible refine (locks_Take.calls (fun k_ => some k_ = (.slice Ao79 t240.length co79 : Value).ownBlock) _ _ t240 (wrap64 (a1)) (wrap64 (a3)) _ _ l4 t243 t246 false _ ?side1 ?side2 ?side3 A70.out).mono ?_); (case side1 => exact Kd.R_V (Kd.R_tight rfl (Kd.R_apart' (Kd.R_apart' (HO242.out) (Kd.R_typed HO_21.out) (by decide)) (Kd.R_typed HO_24.out) (by decide)))); (case side2 => exact kC ((Kd.C_below HR4.out HB.out))); (case side3 => exact HC4.out); rintro e w80 ⟨v244, v247, rfl, ho0, ho1, hb⟩; refine ⟨_, rfl, ?_⟩; have n0_ := Aside0.mk (Kd.V_elder' (by (with_reducible repeat (first | apply Kd.V_alloc | apply Kd.V_drewN | apply Kd.V_drew)); exact HO_17.out) (Kd.R_base ho1) hb); have n1_ := Aside0.mk (Kd.R_elder' (kR HO_21) (Kd.R_base ho1) hb); have n2_ := Aside0.mk (Kd.R_elder' (kR HO_24) (Kd.R_base ho1) hb); have n3_ := Aside0.mk (Kd.R_below (kR HO242) hb); have n4_ := Aside0.mk (Kd.V_lower (Kd.V_mono (ok' := fun k_ => some k_ ≠ (v247 : Value).ownBlock ∧ some k_ ≠ (v219 : Value).ownBlock ∧ some k_ ≠ (v226 : Value).ownBlock) ho0 (fun k_ hk_ => ⟨hk_.2, Or.elim hk_.1 (fun hs_ => ((Kd.R_apart' (Kd.R_apart' (HO242.out) (Kd.R_typed HO_21.out) (by decide)) (Kd.R_typed HO_24.out) (by decide)).1 k_ hs_.symm).1.2) (fun hn_ => (Kd.fresh' (Kd.R_lt (kR HO_21)) k_ hn_)), Or.elim hk_.1 (fun hs_ => ((Kd.R_apart' (Kd.R_apart' (HO242.out) (Kd.R_typed HO_21.out) (by decide)) (Kd.R_typed HO_24.out) (by decide)).1 k_ hs_.symm).2) (fun hn_ => (Kd.fresh' (Kd.R_lt (kR HO_24)) k_ hn_))⟩)) (below_size (kZ HB))); have n5_ := Aside0.mk (Kd.R_lower (Kd.R_new' (Kd.R_new' (Kd.R_mono (ok' := fun k_ => True) ho1 (fun _ hk_ => trivial)) (Kd.R_lt (kR HO_21))) (Kd.R_lt (kR HO_24))) (below_size (kZ HB))); have n6_ := Aside0.mk (below_step (kZ HB) hb); clear HO_17; clear HO_21; clear HO_24; clear HO242; clear HB; have HO_17 := n0_; have HO_21 := n1_; have HO_24 := n2_; have HO242 := n3_; have HO245 := n4_; have HO248 := n5_; have HB := n6_; clear n0_ n1_ n2_ n3_ n4_ n5_ n6_; (try clear hb); (try clear hb2); (try clear hk); (try clear hi); (try clear ho0); (try clear ho1)))
               go_ret
               exact ⟨by first | rfl | (simp [errW_none, errW_some] <;> rfl) | (simp [*, errW_none, errW_some] <;> rfl), kZ HB⟩
             ·replace c71 := Bool.eq_false_iff.mpr c71
              subst c71
              have H1 : (some false) = some r := by rw [if_neg (show ¬ (false = true) by decide)] at H; exact H
              clear H
              have H := H1
              clear H1
              obtain rfl := Option.some.inj H
              go_wp2_with (first | ((with_reducible refine gate_callee (f := 14) rfl ?_); refine gL (some 176) Try.func14 #[.slice Ao37 t208.length co37, .int .i64 (wrap64 (a0))] rfl rfl ?_; (with_reducible refine (locks_Free.calls _ _ t208 (wrap64 (a0)) t240 _ ?side1 ?side2 A69.out).mono ?_); (case side1 => exact kC ((Kd.V_reads' HO_17.out).2.2)); (case side2 => exact (Kd.V_reads' HO_17.out).2.1); rintro e w81 ⟨v241, rfl, ho0, hb⟩; refine ⟨_, rfl, ?_⟩; have n0_ := Aside0.mk (Kd.V_elder' (by (with_reducible repeat (first | apply Kd.V_alloc | apply Kd.V_drewN | apply Kd.V_drew)); exact HO_17.out) (Kd.R_base ho0) hb); have n1_ := Aside0.mk (Kd.R_below (kR HO_21) hb); have n2_ := Aside0.mk (Kd.R_below (kR HO_24) hb); have n3_ := Aside0.mk (Kd.R_lower ho0 (below_size (kZ HB))); have n4_ := Aside0.mk (below_step (kZ HB) hb); clear HO_17; clear HO_21; clear HO_24; clear HB; have HO_17 := n0_; have HO_21 := n1_; have HO_24 := n2_; have HO242 := n3_; have HB := n4_; clear n0_ n1_ n2_ n3_ n4_; (try clear hb); (try clear hb2); (try clear hk); (try clear hi); (try clear ho0); obtain ⟨Ao82, co82, eo82⟩ := Kd.R_slice HO242.out; subst eo82) | ((with_reducible refine gate_callee (f := 11) rfl ?_); refine gL (some 182) Try.func11 #[.slice Ao82 t240.length co82, .int .i64 (wrap64 (a1)), .int .i64 (wrap64 (a3)), .slice A4 l4.length c4] rfl rfl ?_; (with_reducible refine (locks_Take.calls (fun k_ => some k_ = (.slice Ao82 t240.length co82 : Value).ownBlock) _ _ t240 (wrap64 (a1)) (wrap64 (a3)) _ _ l4 t243 t246 t249 _ ?side1 ?side2 ?side3 A70.out).mono ?_); (case side1 => exact Kd.R_V (Kd.R_tight rfl (Kd.R_apart' (Kd.R_apart' (HO242.out) (Kd.R_typed HO_21.out) (by decide)) (Kd.R_typed HO_24.out) (by decide)))); (case side2 => exact kC ((Kd.C_below HR4.out HB.out))); (case side3 => exact HC4.out); rintro e w83 ⟨v244, v247, rfl, ho0, ho1, hb⟩; refine ⟨_, rfl, ?_⟩; have n0_ := Aside0.mk (Kd.V_elder' (by (with_reducible repeat (first | apply Kd.V_alloc | apply Kd.V_drewN | apply Kd.V_drew)); exact HO_17.out) (Kd.R_base ho1) hb); have n1_ := Aside0.mk (Kd.R_elder' (kR HO_21) (Kd.R_base ho1) hb); have n2_ := Aside0.mk (Kd.R_elder' (kR HO_24) (Kd.R_base ho1) hb); have n3_ := Aside0.mk (Kd.R_below (kR HO242) hb); have n4_ := Aside0.mk (Kd.V_lower (Kd.V_mono (ok' := fun k_ => some k_ ≠ (v247 : Value).ownBlock ∧ some k_ ≠ (v219 : Value).ownBlock ∧ some k_ ≠ (v226 : Value).ownBlock) ho0 (fun k_ hk_ => ⟨hk_.2, Or.elim hk_.1 (fun hs_ => ((Kd.R_apart' (Kd.R_apart' (HO242.out) (Kd.R_typed HO_21.out) (by decide)) (Kd.R_typed HO_24.out) (by decide)).1 k_ hs_.symm).1.2) (fun hn_ => (Kd.fresh' (Kd.R_lt (kR HO_21)) k_ hn_)), Or.elim hk_.1 (fun hs_ => ((Kd.R_apart' (Kd.R_apart' (HO242.out) (Kd.R_typed HO_21.out) (by decide)) (Kd.R_typed HO_24.out) (by decide)).1 k_ hs_.symm).2) (fun hn_ => (Kd.fresh' (Kd.R_lt (kR HO_24)) k_ hn_))⟩)) (below_size (kZ HB))); have n5_ := Aside0.mk (Kd.R_lower (Kd.R_new' (Kd.R_new' (Kd.R_mono (ok' := fun k_ => True) ho1 (fun _ hk_ => trivial)) (Kd.R_lt (kR HO_21))) (Kd.R_lt (kR HO_24))) (below_size (kZ HB))); have n6_ := Aside0.mk (below_step (kZ HB) hb); clear HO_17; clear HO_21; clear HO_24; clear HO242; clear HB; have HO_17 := n0_; have HO_21 := n1_; have HO_24 := n2_; have HO242 := n3_; have HO245 := n4_; have HO248 := n5_; have HB := n6_; clear n0_ n1_ n2_ n3_ n4_ n5_ n6_; (try clear hb); (try clear hb2); (try clear hk); (try clear hi); (try clear ho0); (try clear ho1)))
              go_ret
              exact ⟨by first | rfl | (simp [errW_none, errW_some] <;> rfl) | (simp [*, errW_none, errW_some] <;> rfl), kZ HB⟩

end Go.Proofs.Ytclomgbiomojjaa.Q
