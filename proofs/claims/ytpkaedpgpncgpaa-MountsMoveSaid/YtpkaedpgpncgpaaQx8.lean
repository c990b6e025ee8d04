-- Written by a program of this session (xprint) out of the translation; over contracts proved by hand.
import Derived.Test.YtpkaedpgpncgpaaQx0
import Derived.Test.YtpkaedpgpncgpaaSq
import Derived.Test.YtpkaedpgpncgpaaQx7
namespace Go.Proofs.Ytpkaedpgpncgpaa.MBegin
end Go.Proofs.Ytpkaedpgpncgpaa.MBegin
namespace Go.Proofs.Ytpkaedpgpncgpaa.Split
end Go.Proofs.Ytpkaedpgpncgpaa.Split
namespace Go.Proofs.Ytpkaedpgpncgpaa.Q
open Go.Proofs.Ytpkaedpgpncgpaa.MBegin Go.Proofs.Ytpkaedpgpncgpaa.Split
set_option linter.unnecessarySimpa false
open Go.RowKit Go.Proofs.YtpkaedpgpncgpaaW.PrintWords Go.Proofs.YtpkaedpgpncgpaaW.PrintLast Go.Proofs.YtpkaedpgpncgpaaW.PrintMore
attribute [local go_sem] max2_int min2_int max_two min_two max_three min_three max_four min_four   -- for this text's walks alone
set_option linter.unusedVariables false
set_option linter.unusedSimpArgs false

abbrev x8tr41_0 : Array Bool := #[false, false, false, false, false, false, false, false, false, false, false, false, false, false, false, false, false, false, false, false, false, false, false, false, false, false, false, false, false, false, false, false, false, false, false, false, false, false, false, false, false]
abbrev x8tr41_1 : Array Bool := #[true, false, false, false, false, false, false, false, false, false, false, false, false, false, false, false, false, false, false, false, false, false, false, false, false, false, false, false, false, false, false, false, false, false, false, false, false, false, false, false, false]
abbrev x8tr41_10 : Array Bool := #[true, true, true, true, true, true, true, true, true, true, false, false, false, false, false, false, false, false, false, false, false, false, false, false, false, false, false, false, false, false, false, false, false, false, false, false, false, false, false, false, false]
abbrev x8tr41_11 : Array Bool := #[true, true, true, true, true, true, true, true, true, true, true, false, false, false, false, false, false, false, false, false, false, false, false, false, false, false, false, false, false, false, false, false, false, false, false, false, false, false, false, false, false]
abbrev x8tr41_12 : Array Bool := #[true, true, true, true, true, true, true, true, true, true, true, true, false, false, false, false, false, false, false, false, false, false, false, false, false, false, false, false, false, false, false, false, false, false, false, false, false, false, false, false, false]
abbrev x8tr41_13 : Array Bool := #[true, true, true, true, true, true, true, true, true, true, true, true, true, false, false, false, false, false, false, false, false, false, false, false, false, false, false, false, false, false, false, false, false, false, false, false, false, false, false, false, false]
abbrev x8tr41_14 : Array Bool := #[true, true, true, true, true, true, true, true, true, true, true, true, true, true, false, false, false, false, false, false, false, false, false, false, false, false, false, false, false, false, false, false, false, false, false, false, false, false, false, false, false]
abbrev x8tr41_15 : Array Bool := #[true, true, true, true, true, true, true, true, true, true, true, true, true, true, true, false, false, false, false, false, false, false, false, false, false, false, false, false, false, false, false, false, false, false, false, false, false, false, false, false, false]
abbrev x8tr41_16 : Array Bool := #[true, true, true, true, true, true, true, true, true, true, true, true, true, true, true, true, false, false, false, false, false, false, false, false, false, false, false, false, false, false, false, false, false, false, false, false, false, false, false, false, false]
abbrev x8tr41_17 : Array Bool := #[true, true, true, true, true, true, true, true, true, true, true, true, true, true, true, true, true, false, false, false, false, false, false, false, false, false, false, false, false, false, false, false, false, false, false, false, false, false, false, false, false]
abbrev x8tr41_18 : Array Bool := #[true, true, true, true, true, true, true, true, true, true, true, true, true, true, true, true, true, true, false, false, false, false, false, false, false, false, false, false, false, false, false, false, false, false, false, false, false, false, false, false, false]
abbrev x8tr41_19 : Array Bool := #[true, true, true, true, true, true, true, true, true, true, true, true, true, true, true, true, true, true, true, false, false, false, false, false, false, false, false, false, false, false, false, false, false, false, false, false, false, false, false, false, false]
abbrev x8tr41_2 : Array Bool := #[true, true, false, false, false, false, false, false, false, false, false, false, false, false, false, false, false, false, false, false, false, false, false, false, false, false, false, false, false, false, false, false, false, false, false, false, false, false, false, false, false]
abbrev x8tr41_20 : Array Bool := #[true, true, true, true, true, true, true, true, true, true, true, true, true, true, true, true, true, true, true, true, false, false, false, false, false, false, false, false, false, false, false, false, false, false, false, false, false, false, false, false, false]
abbrev x8tr41_21 : Array Bool := #[true, true, true, true, true, true, true, true, true, true, true, true, true, true, true, true, true, true, true, true, true, false, false, false, false, false, false, false, false, false, false, false, false, false, false, false, false, false, false, false, false]
abbrev x8tr41_22 : Array Bool := #[true, true, true, true, true, true, true, true, true, true, true, true, true, true, true, true, true, true, true, true, true, true, false, false, false, false, false, false, false, false, false, false, false, false, false, false, false, false, false, false, false]
abbrev x8tr41_23 : Array Bool := #[true, true, true, true, true, true, true, true, true, true, true, true, true, true, true, true, true, true, true, true, true, true, true, false, false, false, false, false, false, false, false, false, false, false, false, false, false, false, false, false, false]
abbrev x8tr41_24 : Array Bool := #[true, true, true, true, true, true, true, true, true, true, true, true, true, true, true, true, true, true, true, true, true, true, true, true, false, false, false, false, false, false, false, false, false, false, false, false, false, false, false, false, false]
abbrev x8tr41_25 : Array Bool := #[true, true, true, true, true, true, true, true, true, true, true, true, true, true, true, true, true, true, true, true, true, true, true, true, true, false, false, false, false, false, false, false, false, false, false, false, false, false, false, false, false]
abbrev x8tr41_26 : Array Bool := #[true, true, true, true, true, true, true, true, true, true, true, true, true, true, true, true, true, true, true, true, true, true, true, true, true, true, false, false, false, false, false, false, false, false, false, false, false, false, false, false, false]
abbrev x8tr41_27 : Array Bool := #[true, true, true, true, true, true, true, true, true, true, true, true, true, true, true, true, true, true, true, true, true, true, true, true, true, true, true, false, false, false, false, false, false, false, false, false, false, false, false, false, false]
abbrev x8tr41_28 : Array Bool := #[true, true, true, true, true, true, true, true, true, true, true, true, true, true, true, true, true, true, true, true, true, true, true, true, true, true, true, true, false, false, false, false, false, false, false, false, false, false, false, false, false]
abbrev x8tr41_29 : Array Bool := #[true, true, true, true, true, true, true, true, true, true, true, true, true, true, true, true, true, true, true, true, true, true, true, true, true, true, true, true, true, false, false, false, false, false, false, false, false, false, false, false, false]
abbrev x8tr41_3 : Array Bool := #[true, true, true, false, false, false, false, false, false, false, false, false, false, false, false, false, false, false, false, false, false, false, false, false, false, false, false, false, false, false, false, false, false, false, false, false, false, false, false, false, false]
abbrev x8tr41_30 : Array Bool := #[true, true, true, true, true, true, true, true, true, true, true, true, true, true, true, true, true, true, true, true, true, true, true, true, true, true, true, true, true, true, false, false, false, false, false, false, false, false, false, false, false]
abbrev x8tr41_31 : Array Bool := #[true, true, true, true, true, true, true, true, true, true, true, true, true, true, true, true, true, true, true, true, true, true, true, true, true, true, true, true, true, true, true, false, false, false, false, false, false, false, false, false, false]
abbrev x8tr41_32 : Array Bool := #[true, true, true, true, true, true, true, true, true, true, true, true, true, true, true, true, true, true, true, true, true, true, true, true, true, true, true, true, true, true, true, true, false, false, false, false, false, false, false, false, false]
abbrev x8tr41_33 : Array Bool := #[true, true, true, true, true, true, true, true, true, true, true, true, true, true, true, true, true, true, true, true, true, true, true, true, true, true, true, true, true, true, true, true, true, false, false, false, false, false, false, false, false]
abbrev x8tr41_34 : Array Bool := #[true, true, true, true, true, true, true, true, true, true, true, true, true, true, true, true, true, true, true, true, true, true, true, true, true, true, true, true, true, true, true, true, true, true, false, false, false, false, false, false, false]
abbrev x8tr41_35 : Array Bool := #[true, true, true, true, true, true, true, true, true, true, true, true, true, true, true, true, true, true, true, true, true, true, true, true, true, true, true, true, true, true, true, true, true, true, true, false, false, false, false, false, false]
abbrev x8tr41_36 : Array Bool := #[true, true, true, true, true, true, true, true, true, true, true, true, true, true, true, true, true, true, true, true, true, true, true, true, true, true, true, true, true, true, true, true, true, true, true, true, false, false, false, false, false]
abbrev x8tr41_37 : Array Bool := #[true, true, true, true, true, true, true, true, true, true, true, true, true, true, true, true, true, true, true, true, true, true, true, true, true, true, true, true, true, true, true, true, true, true, true, true, true, false, false, false, false]
abbrev x8tr41_38 : Array Bool := #[true, true, true, true, true, true, true, true, true, true, true, true, true, true, true, true, true, true, true, true, true, true, true, true, true, true, true, true, true, true, true, true, true, true, true, true, true, true, false, false, false]
abbrev x8tr41_39 : Array Bool := #[true, true, true, true, true, true, true, true, true, true, true, true, true, true, true, true, true, true, true, true, true, true, true, true, true, true, true, true, true, true, true, true, true, true, true, true, true, true, true, false, false]
abbrev x8tr41_4 : Array Bool := #[true, true, true, true, false, false, false, false, false, false, false, false, false, false, false, false, false, false, false, false, false, false, false, false, false, false, false, false, false, false, false, false, false, false, false, false, false, false, false, false, false]
abbrev x8tr41_40 : Array Bool := #[true, true, true, true, true, true, true, true, true, true, true, true, true, true, true, true, true, true, true, true, true, true, true, true, true, true, true, true, true, true, true, true, true, true, true, true, true, true, true, true, false]
abbrev x8tr41_41 : Array Bool := #[true, true, true, true, true, true, true, true, true, true, true, true, true, true, true, true, true, true, true, true, true, true, true, true, true, true, true, true, true, true, true, true, true, true, true, true, true, true, true, true, true]
abbrev x8tr41_5 : Array Bool := #[true, true, true, true, true, false, false, false, false, false, false, false, false, false, false, false, false, false, false, false, false, false, false, false, false, false, false, false, false, false, false, false, false, false, false, false, false, false, false, false, false]
abbrev x8tr41_6 : Array Bool := #[true, true, true, true, true, true, false, false, false, false, false, false, false, false, false, false, false, false, false, false, false, false, false, false, false, false, false, false, false, false, false, false, false, false, false, false, false, false, false, false, false]
abbrev x8tr41_7 : Array Bool := #[true, true, true, true, true, true, true, false, false, false, false, false, false, false, false, false, false, false, false, false, false, false, false, false, false, false, false, false, false, false, false, false, false, false, false, false, false, false, false, false, false]
abbrev x8tr41_8 : Array Bool := #[true, true, true, true, true, true, true, true, false, false, false, false, false, false, false, false, false, false, false, false, false, false, false, false, false, false, false, false, false, false, false, false, false, false, false, false, false, false, false, false, false]
abbrev x8tr41_9 : Array Bool := #[true, true, true, true, true, true, true, true, true, false, false, false, false, false, false, false, false, false, false, false, false, false, false, false, false, false, false, false, false, false, false, false, false, false, false, false, false, false, false, false, false]
abbrev x8tr41_m11111111111111111111111111111111111010000 : Array Bool := #[true, true, true, true, true, true, true, true, true, true, true, true, true, true, true, true, true, true, true, true, true, true, true, true, true, true, true, true, true, true, true, true, true, true, true, false, true, false, false, false, false]
/-! ### cantonref14_Right: function 10 -/
mutual
def cantonref14_Right.j0 : Nat → List (S27) → Bool → Option (Bool)
 | 0, _, _ => none
 | k + 1, x0, x19 => if x19 = true then (some false) else (cantonref14_Right.l0 k x0 0)
def cantonref14_Right.l0 : Nat → List (S27) → Int → Option (Bool)
 | 0, _, _ => none
 | k + 1, x0, x3 => if x3 < (x0.length : Int) then (if 0 ≤ x3 then ((cantonref01_Right.f k ((rd_T27 x0 x3).f0)).bind fun t176 => (if t176 = true then ((cantonref14_group.f ((rd_T27 x0 x3).f1)).bind fun t177 => (if t177 = true then ((cantonref14_group.f ((rd_T27 x0 x3).f3)).bind fun t178 => (if t178 = true then (if ((rd_T27 x0 x3).f2) < 0 then (some false) else (if ((rd_T27 x0 x3).f2) > 281474976710656 then (some false) else (if x3 > 0 then (if 0 ≤ (wrap64 (x3 - 1)) then (if (wrap64 (x3 - 1)) < (x0.length : Int) then (if ((Op.bytesLess (((rd_T27 x0 (wrap64 (x3 - 1))).f0).toList) (((rd_T27 x0 x3).f0).toList)) = true) then (cantonref14_Right.l0 k x0 (wrap64 (x3 + 1))) else (some false)) else (none)) else (none)) else (cantonref14_Right.l0 k x0 (wrap64 (x3 + 1)))))) else (some false))) else (some false))) else (some false))) else (none)) else (some true)
end
def cantonref14_Right.f (k : Nat) (l0 : List (S27)) : Option (Bool) := if (l0.length : Int) < 1 then (cantonref14_Right.j0 k l0 true) else (if (l0.length : Int) > 32 then (cantonref14_Right.j0 k l0 true) else (if 0 < (l0.length : Int) then (cantonref14_Right.j0 k l0 (((rd_T27 l0 0).f0).toList != ([47] : List UInt8))) else (none)))
theorem cantonref14_Right.mono_l : ∀ k, (∀ y0 y1, LeO (cantonref14_Right.j0 k y0 y1) (cantonref14_Right.j0 (k + 1) y0 y1)) ∧ (∀ y0 y1, LeO (cantonref14_Right.l0 k y0 y1) (cantonref14_Right.l0 (k + 1) y0 y1))
 | 0 => ⟨fun _ _ r h => by simp [cantonref14_Right.j0] at h, fun _ _ r h => by simp [cantonref14_Right.l0] at h⟩
 | k + 1 => by
  obtain ⟨ih0, ih1⟩ := cantonref14_Right.mono_l k
  refine ⟨?_, ?_⟩
  ·intro y0 y1
   unfold cantonref14_Right.j0
   repeat' first
   | (with_reducible exact ih0 _ _)
   | (with_reducible exact ih1 _ _)
   | (with_reducible exact cantonref01_Right.mono _ _)
   | (with_reducible exact LeO.refl _)
   | (with_reducible exact LeO.none _)
   | (with_reducible refine LeO.ite ?_ ?_)
   | (with_reducible refine LeO.bind ?_ (fun _ => ?_))
   | exact ih0 _ _
   | exact ih1 _ _
   | exact cantonref01_Right.mono _ _
   | exact LeO.none _
   | refine LeO.ite ?_ ?_
   | refine LeO.bind ?_ (fun _ => ?_)
  ·intro y0 y1
   unfold cantonref14_Right.l0
   repeat' first
   | (with_reducible exact ih0 _ _)
   | (with_reducible exact ih1 _ _)
   | (with_reducible exact cantonref01_Right.mono _ _)
   | (with_reducible exact LeO.refl _)
   | (with_reducible exact LeO.none _)
   | (with_reducible refine LeO.ite ?_ ?_)
   | (with_reducible refine LeO.bind ?_ (fun _ => ?_))
   | exact ih0 _ _
   | exact ih1 _ _
   | exact cantonref01_Right.mono _ _
   | exact LeO.none _
   | refine LeO.ite ?_ ?_
   | refine LeO.bind ?_ (fun _ => ?_)
theorem cantonref14_Right.mono : ∀ a0 k, LeO (cantonref14_Right.f k a0) (cantonref14_Right.f (k + 1) a0) := by
 intro a0 k
 obtain ⟨ih0, ih1⟩ := cantonref14_Right.mono_l k
 unfold cantonref14_Right.f
 repeat' first
   | (with_reducible exact ih0 _ _)
   | (with_reducible exact ih1 _ _)
   | (with_reducible exact cantonref01_Right.mono _ _)
   | (with_reducible exact LeO.refl _)
   | (with_reducible exact LeO.none _)
   | (with_reducible refine LeO.ite ?_ ?_)
   | (with_reducible refine LeO.bind ?_ (fun _ => ?_))
   | exact ih0 _ _
   | exact ih1 _ _
   | exact cantonref01_Right.mono _ _
   | exact LeO.none _
   | refine LeO.ite ?_ ?_
   | refine LeO.bind ?_ (fun _ => ?_)
def cantonref14_Right.T7 : Bool × List (List Nat × List Nat) := (true, [([], []), ([0], [0]), ([1], [1]), ([2], [2]), ([3, 2], [3]), ([4], [4]), ([5, 4], [4, 5]), ([6, 4, 4], [4, 6]), ([7, 4], [4, 7]), ([4, 8], [4, 8]), ([9, 7], [9]), ([10], [10]), ([11, 10], [10, 11]), ([12, 10, 10], [10, 12]), ([13, 10], [10, 13]), ([10, 14], [10, 14]), ([15, 13], [15]), ([16], [16]), ([17, 16], [16, 17]), ([18, 16], [16, 18]), ([16, 19], [16, 19]), ([20, 16], [20]), ([21], [21]), ([22, 21], [21, 22]), ([23, 21], [21, 23]), ([21, 24], [21, 24]), ([25, 21], [25]), ([26], [26]), ([27, 26], [26, 27]), ([28, 26, 26], [26, 28]), ([29], [29]), ([29], [29]), ([31, 29], [29, 31]), ([30, 32, 29], [29, 30, 32]), ([33, 29], [29, 33]), ([34, 29], [29, 34]), ([29], [29]), ([36, 29], [29, 36]), ([35, 37, 29], [29, 35, 37]), ([29, 38, 26], [26, 29, 38]), ([26, 39], [26, 39])])
def cantonref14_Right.B7 : List Nat := [0, 1, 3, 7, 15, 31, 63, 127, 255, 511, 1023, 2047, 4095, 8191, 16383, 32767, 65535, 131071, 262143, 524287, 1048575, 2097151, 4194303, 8388607, 16777215, 33554431, 67108863, 134217727, 268435455, 536870911, 1073741823, 1073741823, 3221225471, 8589934591, 17179869183, 34359738367, 1073741823, 69793218559, 274877906943, 549755813887, 1099511627775]
theorem cantonref14_Right.tab7 : rtab .any (opsOf Try.f10 7) = cantonref14_Right.T7 := by kernel_rfl
theorem cantonref14_Right.bits7 : waitsOk cantonref14_Right.T7.2 cantonref14_Right.B7 = true := by kernel_rfl
set_option maxHeartbeats 8000000 in
set_option maxRecDepth 100000 in
theorem cantonref14_Right.calls (k : Nat) (A0 : Option Addr) (c0 : Nat) (l0 : List (S27)) (r : Bool) (w : World) (hr0 : Kd.C k27 w A0 l0.length l0) (hc0 : l0.length ≤ c0) (h : cantonref14_Right.f k l0 = some r) :
  Calls Try.prog 10 #[.slice A0 l0.length c0] w fun e w' => e = .returned (.bool r) ∧ Below w.heap.size w w' := by
 have hu27 := Try.underlying27
 have HR0 := Aside0.mk hr0
 have HC0 := Aside0.mk hc0
 clear hr0 hc0
 have HB := Aside0.mk (Below.refl w.heap.size w)
 have H : (if (l0.length : Int) < 1 then (cantonref14_Right.j0 k l0 true) else (if (l0.length : Int) > 32 then (cantonref14_Right.j0 k l0 true) else (if 0 < (l0.length : Int) then (cantonref14_Right.j0 k l0 (((rd_T27 l0 0).f0).toList != ([47] : List UInt8))) else (none)))) = some r := h
 clear h
 have HC2 := Aside0.mk H
 clear H
 go_enter Try.func10, Try.ntmps10
 go_upto_region 1 with (fail)
 go_cut [19] (fun v19 wc => ∃ (kq : Nat) (x19_1 : Bool), v19 = .bool x19_1 ∧ Aside0 (cantonref14_Right.j0 kq l0 x19_1 = some r) ∧ Aside0 (kq ≤ k) ∧ Aside0 (Below w.heap.size w wc))
 case first =>
  have H := HC2.out
  clear HC2
  by_cases c3 : (l0.length : Int) < 1
  ·rw [if_pos c3] at H
   have c3b0 : decide ((l0.length : Int) < 1) = true := decide_eq_true c3
   have c3b1 : decide (l0.length < 1) = true := decide_eq_true (by omega)
   clear c3
   (first | rw [c3b0] | (simp only [i64_w, i32_w]; rw [c3b0]) | skip)
   have H' := Aside0.mk H
   clear H
   go_wp2
   go_meet
   case rel => exact ⟨_, (true), (by first | rfl | (simp; done) | (simp [*]; done)), H', ⟨by first | omega | exact Nat.le_refl _⟩, ⟨by repeat (first | (with_reducible first | exact HB.out | apply below_alloc | apply pw_below_drewN | apply below_drew1) | exact HB.out)⟩⟩
  ·rw [if_neg c3] at H
   have c3b0 : decide ((l0.length : Int) < 1) = false := decide_eq_false c3
   have c3b1 : decide (l0.length < 1) = false := decide_eq_false (by omega)
   clear c3
   (first | rw [c3b0] | (simp only [i64_w, i32_w]; rw [c3b0]) | skip)
   by_cases c4 : (l0.length : Int) > 32
   ·rw [if_pos c4] at H
    have c4b0 : decide (32 < (l0.length : Int)) = true := decide_eq_true c4
    have c4b1 : decide (32 < l0.length) = true := decide_eq_true (by omega)
    clear c4
    have H' := Aside0.mk H
    clear H
    go_wp2
    go_meet
    case rel => exact ⟨_, (true), (by first | rfl | (simp; done) | (simp [*]; done)), H', ⟨by first | omega | exact Nat.le_refl _⟩, ⟨by repeat (first | (with_reducible first | exact HB.out | apply below_alloc | apply pw_below_drewN | apply below_drew1) | exact HB.out)⟩⟩
   ·rw [if_neg c4] at H
    have c4b0 : decide (32 < (l0.length : Int)) = false := decide_eq_false c4
    have c4b1 : decide (32 < l0.length) = false := decide_eq_false (by omega)
    clear c4
    by_cases c5 : 0 < (l0.length : Int)
    ·rw [if_pos c5] at H
     have c5b0 : decide (0 < (l0.length : Int)) = true := decide_eq_true c5
     have c5b1 : decide (0 < l0.length) = true := decide_eq_true (by omega)
     clear c5
     have H' := Aside0.mk H
     clear H
     have p173 : 0 ≤ (0 : Int) := (by omega)
     have q173 : 0 < (l0.length : Int) := of_decide_eq_true (by first | (with_reducible assumption) | assumption)
     obtain ⟨ad173, e173, hx173_0, hx173_1, hx173_2, hx173_3⟩ := at_T27 HR0.out 0 p173 q173
     cases e173
     have qi173 : (0 < l0.length) = True := eq_true (by omega)
     (try rw [show ((0 : Int)).toNat = 0 from rfl] at hx173_0)
     (try rw [show 0 * 4 = 0 from rfl] at hx173_0)
     (try rw [Addr.add_zero'] at hx173_0)
     (try rw [show ((0 : Int)).toNat = 0 from rfl] at hx173_1)
     (try rw [show 0 * 4 = 0 from rfl] at hx173_1)
     (try rw [Addr.add_zero'] at hx173_1)
     (try rw [show ((0 : Int)).toNat = 0 from rfl] at hx173_2)
     (try rw [show 0 * 4 = 0 from rfl] at hx173_2)
     (try rw [Addr.add_zero'] at hx173_2)
     (try rw [show ((0 : Int)).toNat = 0 from rfl] at hx173_3)
     (try rw [show 0 * 4 = 0 from rfl] at hx173_3)
     (try rw [Addr.add_zero'] at hx173_3)
     replace hx173_0 := (HB.out.cell (World.block_lt_of_cell? w _ hx173_0)).trans hx173_0
     replace hx173_1 := (HB.out.cell (World.block_lt_of_cell? w _ hx173_1)).trans hx173_1
     replace hx173_2 := (HB.out.cell (World.block_lt_of_cell? w _ hx173_2)).trans hx173_2
     replace hx173_3 := (HB.out.cell (World.block_lt_of_cell? w _ hx173_3)).trans hx173_3
     replace p173 := eq_true p173
     replace q173 := eq_true q173
     go_wp2
     go_meet
     case rel => exact ⟨_, ((((rd_T27 l0 0).f0).toList != ([47] : List UInt8))), (by first | rfl | (simp; done) | (simp [*]; done)), H', ⟨by first | omega | exact Nat.le_refl _⟩, ⟨by repeat (first | (with_reducible first | exact HB.out | apply below_alloc | apply pw_below_drewN | apply below_drew1) | exact HB.out)⟩⟩
    ·rw [if_neg c5] at H
     exact absurd H (by simp)
 case rest =>
  clear HC2
  try clear c1
  try clear p1
  try clear q1
  try clear hx1
  try clear qi1
  try clear p2
  try clear c3
  try clear c3b0
  try clear c3b1
  try clear c4
  try clear c4b0
  try clear c4b1
  try clear c5
  try clear c5b0
  try clear c5b1
  try clear hx173_0
  try clear hx173_1
  try clear hx173_2
  try clear hx173_3
  try clear p173
  try clear q173
  obtain ⟨kq, x19_1, rfl, HA, HJ1, HB⟩ := hcut
  cases kq with
  | zero => exact absurd HA.out (by simp [cantonref14_Right.j0])
  | succ kj1 =>
   have H := HA.out
   clear HA
   simp only [cantonref14_Right.j0] at H
   by_cases c6 : x19_1 = true
   ·subst c6
    have H1 : (some false) = some r := by rw [if_pos rfl] at H; exact H
    clear H
    have H := H1
    clear H1
    obtain rfl := Option.some.inj H
    go_wp2
    go_ret
    exact ⟨by first | rfl | (simp [errW_none, errW_some] <;> rfl) | (simp [*, errW_none, errW_some] <;> rfl), by repeat (first | (with_reducible first | exact HB.out | apply below_alloc | apply pw_below_drewN | apply below_drew1) | exact HB.out)⟩
   ·replace c6 := Bool.eq_false_iff.mpr c6
    subst c6
    have H1 : (cantonref14_Right.l0 kj1 l0 0) = some r := by rw [if_neg (show ¬ (false = true) by decide)] at H; exact H
    clear H
    have H := H1
    clear H1
    have H' := Aside0.mk H
    clear H
    go_wp2
    go_loopg [3] kj1 (fun kq v3 w' => ∃ (x3_2 : Int), v3 = .int .i64 x3_2 ∧ Aside0 (cantonref14_Right.l0 kq l0 x3_2 = some r) ∧ Aside0 (kq ≤ kj1) ∧ Aside0 (Below w.heap.size w w'))
    case atStart => exact ⟨(0), (by first | rfl | (simp; done) | (simp [*]; done)), H', ⟨Nat.le_refl _⟩, ⟨by repeat (first | (with_reducible first | exact HB.out | apply below_alloc | apply pw_below_drewN | apply below_drew1) | exact HB.out)⟩⟩
    case round =>
     clear H'
     try clear c1
     try clear p1
     try clear q1
     try clear hx1
     try clear qi1
     try clear p2
     try clear c3
     try clear c3b0
     try clear c3b1
     try clear c4
     try clear c4b0
     try clear c4b1
     try clear c5
     try clear c5b0
     try clear c5b1
     try clear c6
     try clear hx173_0
     try clear hx173_1
     try clear hx173_2
     try clear hx173_3
     try clear p1
     try clear p173
     try clear p2
     try clear q1
     try clear q173
     obtain ⟨x3_2, rfl, HA, HK2, HB⟩ := hrel
     cases gk with
     | zero => exact absurd HA.out (by simp [cantonref14_Right.l0])
     | succ k2 =>
      have H := HA.out
      clear HA
      simp only [cantonref14_Right.l0] at H
      by_cases c7 : x3_2 < (l0.length : Int)
      ·rw [if_pos c7] at H
       have c7b0 : decide (x3_2 < (l0.length : Int)) = true := decide_eq_true c7
       clear c7
       by_cases c8 : 0 ≤ x3_2
       ·rw [if_pos c8] at H
        have c8b0 : decide (0 ≤ x3_2) = true := decide_eq_true c8
        clear c8
        replace H := Option.bind_eq_some_iff.mp H
        obtain ⟨t176, A90, H⟩ := H
        replace H : (if t176 = true then ((cantonref14_group.f ((rd_T27 l0 x3_2).f1)).bind fun t177 => (if t177 = true then ((cantonref14_group.f ((rd_T27 l0 x3_2).f3)).bind fun t178 => (if t178 = true then (if ((rd_T27 l0 x3_2).f2) < 0 then (some false) else (if ((rd_T27 l0 x3_2).f2) > 281474976710656 then (some false) else (if x3_2 > 0 then (if 0 ≤ (wrap64 (x3_2 - 1)) then (if (wrap64 (x3_2 - 1)) < (l0.length : Int) then (if ((Op.bytesLess (((rd_T27 l0 (wrap64 (x3_2 - 1))).f0).toList) (((rd_T27 l0 x3_2).f0).toList)) = true) then (cantonref14_Right.l0 k2 l0 (wrap64 (x3_2 + 1))) else (some false)) else (none)) else (none)) else (cantonref14_Right.l0 k2 l0 (wrap64 (x3_2 + 1)))))) else (some false))) else (some false))) else (some false)) = some r := H
        have A9 := Aside0.mk A90
        clear A90
        by_cases c10 : t176 = true
        ·subst c10
         have H1 : ((cantonref14_group.f ((rd_T27 l0 x3_2).f1)).bind fun t177 => (if t177 = true then ((cantonref14_group.f ((rd_T27 l0 x3_2).f3)).bind fun t178 => (if t178 = true then (if ((rd_T27 l0 x3_2).f2) < 0 then (some false) else (if ((rd_T27 l0 x3_2).f2) > 281474976710656 then (some false) else (if x3_2 > 0 then (if 0 ≤ (wrap64 (x3_2 - 1)) then (if (wrap64 (x3_2 - 1)) < (l0.length : Int) then (if ((Op.bytesLess (((rd_T27 l0 (wrap64 (x3_2 - 1))).f0).toList) (((rd_T27 l0 x3_2).f0).toList)) = true) then (cantonref14_Right.l0 k2 l0 (wrap64 (x3_2 + 1))) else (some false)) else (none)) else (none)) else (cantonref14_Right.l0 k2 l0 (wrap64 (x3_2 + 1)))))) else (some false))) else (some false))) = some r := by rw [if_pos rfl] at H; exact H
         clear H
         have H := H1
         clear H1
         replace H := Option.bind_eq_some_iff.mp H
         obtain ⟨t177, A110, H⟩ := H
         replace H : (if t177 = true then ((cantonref14_group.f ((rd_T27 l0 x3_2).f3)).bind fun t178 => (if t178 = true then (if ((rd_T27 l0 x3_2).f2) < 0 then (some false) else (if ((rd_T27 l0 x3_2).f2) > 281474976710656 then (some false) else (if x3_2 > 0 then (if 0 ≤ (wrap64 (x3_2 - 1)) then (if (wrap64 (x3_2 - 1)) < (l0.length : Int) then (if ((Op.bytesLess (((rd_T27 l0 (wrap64 (x3_2 - 1))).f0).toList) (((rd_T27 l0 x3_2).f0).toList)) = true) then (cantonref14_Right.l0 k2 l0 (wrap64 (x3_2 + 1))) else (some false)) else (none)) else (none)) else (cantonref14_Right.l0 k2 l0 (wrap64 (x3_2 + 1)))))) else (some false))) else (some false)) = some r := H
         have A11 := Aside0.mk A110
         clear A110
         by_cases c12 : t177 = true
         ·subst c12
          have H1 : ((cantonref14_group.f ((rd_T27 l0 x3_2).f3)).bind fun t178 => (if t178 = true then (if ((rd_T27 l0 x3_2).f2) < 0 then (some false) else (if ((rd_T27 l0 x3_2).f2) > 281474976710656 then (some false) else (if x3_2 > 0 then (if 0 ≤ (wrap64 (x3_2 - 1)) then (if (wrap64 (x3_2 - 1)) < (l0.length : Int) then (if ((Op.bytesLess (((rd_T27 l0 (wrap64 (x3_2 - 1))).f0).toList) (((rd_T27 l0 x3_2).f0).toList)) = true) then (cantonref14_Right.l0 k2 l0 (wrap64 (x3_2 + 1))) else (some false)) else (none)) else (none)) else (cantonref14_Right.l0 k2 l0 (wrap64 (x3_2 + 1)))))) else (some false))) = some r := by rw [if_pos rfl] at H; exact H
          clear H
          have H := H1
          clear H1
          replace H := Option.bind_eq_some_iff.mp H
          obtain ⟨t178, A130, H⟩ := H
          replace H : (if t178 = true then (if ((rd_T27 l0 x3_2).f2) < 0 then (some false) else (if ((rd_T27 l0 x3_2).f2) > 281474976710656 then (some false) else (if x3_2 > 0 then (if 0 ≤ (wrap64 (x3_2 - 1)) then (if (wrap64 (x3_2 - 1)) < (l0.length : Int) then (if ((Op.bytesLess (((rd_T27 l0 (wrap64 (x3_2 - 1))).f0).toList) (((rd_T27 l0 x3_2).f0).toList)) = true) then (cantonref14_Right.l0 k2 l0 (wrap64 (x3_2 + 1))) else (some false)) else (none)) else (none)) else (cantonref14_Right.l0 k2 l0 (wrap64 (x3_2 + 1)))))) else (some false)) = some r := H
          have A13 := Aside0.mk A130
          clear A130
          by_cases c14 : t178 = true
          ·subst c14
           have H1 : (if ((rd_T27 l0 x3_2).f2) < 0 then (some false) else (if ((rd_T27 l0 x3_2).f2) > 281474976710656 then (some false) else (if x3_2 > 0 then (if 0 ≤ (wrap64 (x3_2 - 1)) then (if (wrap64 (x3_2 - 1)) < (l0.length : Int) then (if ((Op.bytesLess (((rd_T27 l0 (wrap64 (x3_2 - 1))).f0).toList) (((rd_T27 l0 x3_2).f0).toList)) = true) then (cantonref14_Right.l0 k2 l0 (wrap64 (x3_2 + 1))) else (some false)) else (none)) else (none)) else (cantonref14_Right.l0 k2 l0 (wrap64 (x3_2 + 1)))))) = some r := by rw [if_pos rfl] at H; exact H
           clear H
           have H := H1
           clear H1
           by_cases c15 : ((rd_T27 l0 x3_2).f2) < 0
           ·rw [if_pos c15] at H
            have c15b0 : decide (((rd_T27 l0 x3_2).f2) < 0) = true := decide_eq_true c15
            clear c15
            obtain rfl := Option.some.inj H
            have p174 : 0 ≤ (x3_2 : Int) := of_decide_eq_true (by first | (with_reducible assumption) | assumption)
            have q174 : x3_2 < (l0.length : Int) := of_decide_eq_true (by first | (with_reducible assumption) | assumption)
            obtain ⟨ad174, e174, hx174_0, hx174_1, hx174_2, hx174_3⟩ := at_T27 HR0.out x3_2 p174 q174
            cases e174
            replace hx174_0 := (HB.out.cell (World.block_lt_of_cell? w _ hx174_0)).trans hx174_0
            replace hx174_1 := (HB.out.cell (World.block_lt_of_cell? w _ hx174_1)).trans hx174_1
            replace hx174_2 := (HB.out.cell (World.block_lt_of_cell? w _ hx174_2)).trans hx174_2
            replace hx174_3 := (HB.out.cell (World.block_lt_of_cell? w _ hx174_3)).trans hx174_3
            replace p174 := eq_true p174
            replace q174 := eq_true q174
            try go_wp2_with (first | ((with_reducible refine gate_dst (N := 4) rfl ?_); (try (refine gate_guard (by rfl) ?_; dsimp only)); refine box_event ?hg (N := 4) ?hd (cs := #[.string (⟨#[]⟩ : ByteArray), .int .i64 0, .int .i64 0, .int .i64 0]) (t := 27) ?hr ?_; (case hd => rfl); (case hg => rfl); (case hr => first | (go_simp; done) | (go_simp; rfl)); intro gb175 hg w16 hbox hb; have n0_ := Aside0.mk (below_step (by repeat (first | (with_reducible first | exact HB.out | apply below_alloc | apply pw_below_drewN | apply below_drew1) | exact HB.out)) hb); have n1_ := Aside0.mk (hbox); have n2_ := Aside0.mk ((by rw [hg]; exact (below_size (by repeat (first | (with_reducible first | exact HB.out | apply below_alloc | apply pw_below_drewN | apply below_drew1) | exact HB.out))) : w.heap.size ≤ gb175)); have n3_ := Aside0.mk ((by rw [hg]; exact (below_size (by repeat (first | (with_reducible first | exact HB.out | apply below_alloc | apply pw_below_drewN | apply below_drew1) | exact HB.out))) : w.heap.size ≤ gb175)); clear HB; have HB := n0_; have BK175 := n1_; have GW175 := n2_; have GE175 := n3_; clear n0_ n1_ n2_ n3_; clear hb hbox hg; have hcz17_0 : w16.cell? ⟨gb175, 0, none⟩ = some (.string (⟨#[]⟩ : ByteArray)) := (blk_cell BK175.out 0).trans rfl; have hcz17_1 : w16.cell? ⟨gb175, 1, none⟩ = some (.int .i64 0) := (blk_cell BK175.out 1).trans rfl; have hcz17_2 : w16.cell? ⟨gb175, 2, none⟩ = some (.int .i64 0) := (blk_cell BK175.out 2).trans rfl; have hcz17_3 : w16.cell? ⟨gb175, 3, none⟩ = some (.int .i64 0) := (blk_cell BK175.out 3).trans rfl; have hfz17_0 := blk_frozen BK175.out 0; have hfz17_1 := blk_frozen BK175.out 1; have hfz17_2 := blk_frozen BK175.out 2; have hfz17_3 := blk_frozen BK175.out 3))
            have n0_ : Aside0 (((((w16.setCell ⟨gb175, 0, none⟩ (.string ((rd_T27 l0 x3_2).f0))).setCell ⟨gb175, 1, none⟩ (.int .i64 ((rd_T27 l0 x3_2).f1))).setCell ⟨gb175, 2, none⟩ (.int .i64 ((rd_T27 l0 x3_2).f2))).setCell ⟨gb175, 3, none⟩ (.int .i64 ((rd_T27 l0 x3_2).f3))).heap[gb175]? = some (.cells #[.string ((rd_T27 l0 x3_2).f0), .int .i64 ((rd_T27 l0 x3_2).f1), .int .i64 ((rd_T27 l0 x3_2).f2), .int .i64 ((rd_T27 l0 x3_2).f3)] 27 (0, 0))) := ⟨by (with_reducible repeat (first | refine blk_drewN ?_ _ | refine blk_drew ?_ | refine blk_alloc ?_ _)); refine blk_put (cs := #[.string ((rd_T27 l0 x3_2).f0), .int .i64 ((rd_T27 l0 x3_2).f1), .int .i64 ((rd_T27 l0 x3_2).f2), .int .i64 0]) ?_ 3 _ rfl; (with_reducible repeat (first | refine blk_drewN ?_ _ | refine blk_drew ?_ | refine blk_alloc ?_ _)); refine blk_put (cs := #[.string ((rd_T27 l0 x3_2).f0), .int .i64 ((rd_T27 l0 x3_2).f1), .int .i64 0, .int .i64 0]) ?_ 2 _ rfl; (with_reducible repeat (first | refine blk_drewN ?_ _ | refine blk_drew ?_ | refine blk_alloc ?_ _)); refine blk_put (cs := #[.string ((rd_T27 l0 x3_2).f0), .int .i64 0, .int .i64 0, .int .i64 0]) ?_ 1 _ rfl; (with_reducible repeat (first | refine blk_drewN ?_ _ | refine blk_drew ?_ | refine blk_alloc ?_ _)); refine blk_put (cs := #[.string (⟨#[]⟩ : ByteArray), .int .i64 0, .int .i64 0, .int .i64 0]) ?_ 0 _ rfl; (with_reducible repeat (first | refine blk_drewN ?_ _ | refine blk_drew ?_ | refine blk_alloc ?_ _)); exact BK175.out⟩
            have n1_ : Aside0 (Below w.heap.size w ((((w16.setCell ⟨gb175, 0, none⟩ (.string ((rd_T27 l0 x3_2).f0))).setCell ⟨gb175, 1, none⟩ (.int .i64 ((rd_T27 l0 x3_2).f1))).setCell ⟨gb175, 2, none⟩ (.int .i64 ((rd_T27 l0 x3_2).f2))).setCell ⟨gb175, 3, none⟩ (.int .i64 ((rd_T27 l0 x3_2).f3)))) := ⟨by repeat (first | (with_reducible first | exact HB.out | apply below_alloc | apply pw_below_drewN | apply below_drew1 | refine below_set ?_ GE175.out) | exact HB.out)⟩
            (try clear BK175)
            (try clear HB)
            generalize ((((w16.setCell ⟨gb175, 0, none⟩ (.string ((rd_T27 l0 x3_2).f0))).setCell ⟨gb175, 1, none⟩ (.int .i64 ((rd_T27 l0 x3_2).f1))).setCell ⟨gb175, 2, none⟩ (.int .i64 ((rd_T27 l0 x3_2).f2))).setCell ⟨gb175, 3, none⟩ (.int .i64 ((rd_T27 l0 x3_2).f3))) = w18 at n0_ n1_ ⊢
            have BK175 := n0_
            have HB := n1_
            clear n0_ n1_
            have n0_ := Aside0.mk (blk_drew BK175.out)
            have n1_ := Aside0.mk (below_drew1 HB.out)
            clear BK175
            clear HB
            have BK175 := n0_
            have HB := n1_
            clear n0_ n1_
            refine start_ (n := 41) (S := fun w' => w'.cell? ⟨gb175, 0, none⟩ = some (.string ((rd_T27 l0 x3_2).f0)) ∧ w'.cell? ⟨gb175, 1, none⟩ = some (.int .i64 ((rd_T27 l0 x3_2).f1)) ∧ w'.cell? ⟨gb175, 2, none⟩ = some (.int .i64 ((rd_T27 l0 x3_2).f2)) ∧ w'.cell? ⟨gb175, 3, none⟩ = some (.int .i64 ((rd_T27 l0 x3_2).f3))) (ds := []) x8tr41_0 (by kernel_rfl) rfl rfl ⟨(blk_cell BK175.out 0).trans rfl, (blk_cell BK175.out 1).trans rfl, (blk_cell BK175.out 2).trans rfl, (blk_cell BK175.out 3).trans rfl⟩ (fun hHeld => ?_); refine with_tabW cantonref14_Right.tab7 cantonref14_Right.bits7 (fun HT_ HW_ => ?_)
            generalize w18.drew = w19 at BK175 HB hHeld ⊢
            refine pA_ 0 30 x8tr41_1 HT_.out ?_
            refine take_ (i := 1) (N := some 31) (v := ?_) (a' := ?_) x8tr41_2 rfl rfl (take_ofW HT_.out HW_.out (by kernel_rfl)) (fun _ _ _ h => h) (Or.inl ⟨by rfl, ?_⟩) hHeld ?_ ?_
            rotate_left
            ·rintro w' ⟨s0, s1, s2, s3⟩
             go_simp
             with_reducible rfl
            rotate_left
            ·simp only [Act.put, List.setIfInBounds_toArray, List.set_cons_zero, List.set_cons_succ, i64_w, i32_w]
             rfl
            refine one_ (i := 2) (N := some 32) x8tr41_3 rfl rfl (one_of HT_.out (by kernel_rfl)) (by decide) (fun K hK => ?_)
            refine goes_ Try.func11 (by kernel_rfl) rfl #[.string ((rd_T27 l0 x3_2).f0)] (by rfl) rfl rfl (by (try simp only [List.map_toArray, List.map_cons, List.map_nil]); first | done | rfl | (simp only [List.length_drop, List.length_take]; rfl)) ?_
            with_reducible refine (cantonref01_Right.calls k2 ((rd_T27 l0 x3_2).f0) true _ A9.out).mono ?_
            rintro e w20 ⟨rfl, hb⟩
            refine ⟨_, rfl, ?_⟩
            have n0_ := Aside0.mk (blk_below (g := gb175) (o := .cells #[.string ((rd_T27 l0 x3_2).f0), .int .i64 ((rd_T27 l0 x3_2).f1), .int .i64 ((rd_T27 l0 x3_2).f2), .int .i64 ((rd_T27 l0 x3_2).f3)] 27 (0, 0)) (by (with_reducible repeat (first | refine blk_drewN ?_ _ | refine blk_drew ?_ | refine blk_alloc ?_ _)); exact BK175.out) hb)
            have n1_ := Aside0.mk (below_step (by repeat (first | (with_reducible first | exact HB.out | apply below_alloc | apply pw_below_drewN | apply below_drew1 | refine below_set ?_ GE175.out) | exact HB.out)) hb)
            clear BK175
            clear HB
            have BK175 := n0_
            have HB := n1_
            clear n0_ n1_
            (try clear hb)
            (try clear hb2)
            (try clear hk)
            (try clear hi)
            refine hK.out _ _ ⟨(blk_cell BK175.out 0).trans rfl, (blk_cell BK175.out 1).trans rfl, (blk_cell BK175.out 2).trans rfl, (blk_cell BK175.out 3).trans rfl⟩ (fun hHeld => ?_)
            clear hK K
            refine norm_ (a' := ?_) ?_ ?_
            rotate_left
            ·show Act.put _ (some 32) _ = _
             simp only [Act.put, List.setIfInBounds_toArray, List.set_cons_zero, List.set_cons_succ, i64_w, i32_w]
             rfl
            refine pA_ 3 33 x8tr41_4 HT_.out ?_
            refine pA_ 4 34 x8tr41_5 HT_.out ?_
            refine pA_ 5 35 x8tr41_6 HT_.out ?_
            refine take_ (i := 6) (N := some 36) (v := ?_) (a' := ?_) x8tr41_7 rfl rfl (take_ofW HT_.out HW_.out (by kernel_rfl)) (fun _ _ _ h => h) (Or.inl ⟨by rfl, ?_⟩) hHeld ?_ ?_
            rotate_left
            ·rintro w' ⟨s0, s1, s2, s3⟩
             go_simp
             with_reducible rfl
            rotate_left
            ·simp only [Act.put, List.setIfInBounds_toArray, List.set_cons_zero, List.set_cons_succ, i64_w, i32_w]
             rfl
            refine one_ (i := 7) (N := some 37) x8tr41_8 rfl rfl (one_of HT_.out (by kernel_rfl)) (by decide) (fun K hK => ?_)
            refine goes_ Try.func21 (by kernel_rfl) rfl #[.int .i64 ((rd_T27 l0 x3_2).f1)] (by rfl) rfl rfl (by (try simp only [List.map_toArray, List.map_cons, List.map_nil]); first | done | rfl | (simp only [List.length_drop, List.length_take]; rfl)) ?_
            with_reducible refine (cantonref14_group.calls ((rd_T27 l0 x3_2).f1) true _ A11.out).mono ?_
            rintro e w' ⟨rfl, ⟨nd, rfl⟩⟩
            refine ⟨_, rfl, ?_⟩
            refine hK.out _ _ ⟨(blk_cell BK175.out 0).trans rfl, (blk_cell BK175.out 1).trans rfl, (blk_cell BK175.out 2).trans rfl, (blk_cell BK175.out 3).trans rfl⟩ (fun hHeld => ?_)
            clear hK K
            refine norm_ (a' := ?_) ?_ ?_
            rotate_left
            ·show Act.put _ (some 37) _ = _
             simp only [Act.put, List.setIfInBounds_toArray, List.set_cons_zero, List.set_cons_succ, i64_w, i32_w]
             rfl
            refine pA_ 8 38 x8tr41_9 HT_.out ?_
            refine pA_ 9 39 x8tr41_10 HT_.out ?_
            refine pA_ 10 40 x8tr41_11 HT_.out ?_
            refine pA_ 11 41 x8tr41_12 HT_.out ?_
            refine take_ (i := 12) (N := some 42) (v := ?_) (a' := ?_) x8tr41_13 rfl rfl (take_ofW HT_.out HW_.out (by kernel_rfl)) (fun _ _ _ h => h) (Or.inl ⟨by rfl, ?_⟩) hHeld ?_ ?_
            rotate_left
            ·rintro w' ⟨s0, s1, s2, s3⟩
             go_simp
             with_reducible rfl
            rotate_left
            ·simp only [Act.put, List.setIfInBounds_toArray, List.set_cons_zero, List.set_cons_succ, i64_w, i32_w]
             rfl
            refine one_ (i := 13) (N := some 43) x8tr41_14 rfl rfl (one_of HT_.out (by kernel_rfl)) (by decide) (fun K hK => ?_)
            refine goes_ Try.func21 (by kernel_rfl) rfl #[.int .i64 ((rd_T27 l0 x3_2).f3)] (by rfl) rfl rfl (by (try simp only [List.map_toArray, List.map_cons, List.map_nil]); first | done | rfl | (simp only [List.length_drop, List.length_take]; rfl)) ?_
            with_reducible refine (cantonref14_group.calls ((rd_T27 l0 x3_2).f3) true _ A13.out).mono ?_
            rintro e w' ⟨rfl, ⟨nd, rfl⟩⟩
            refine ⟨_, rfl, ?_⟩
            refine hK.out _ _ ⟨(blk_cell BK175.out 0).trans rfl, (blk_cell BK175.out 1).trans rfl, (blk_cell BK175.out 2).trans rfl, (blk_cell BK175.out 3).trans rfl⟩ (fun hHeld => ?_)
            clear hK K
            refine norm_ (a' := ?_) ?_ ?_
            rotate_left
            ·show Act.put _ (some 43) _ = _
             simp only [Act.put, List.setIfInBounds_toArray, List.set_cons_zero, List.set_cons_succ, i64_w, i32_w]
             rfl
            refine pA_ 14 44 x8tr41_15 HT_.out ?_
            refine pA_ 15 45 x8tr41_16 HT_.out ?_
            refine pA_ 16 46 x8tr41_17 HT_.out ?_
            refine pA_ 17 47 x8tr41_18 HT_.out ?_
            refine take_ (i := 18) (N := some 48) (v := ?_) (a' := ?_) x8tr41_19 rfl rfl (take_ofW HT_.out HW_.out (by kernel_rfl)) (fun _ _ _ h => h) (Or.inl ⟨by rfl, ?_⟩) hHeld ?_ ?_
            rotate_left
            ·rintro w' ⟨s0, s1, s2, s3⟩
             go_simp
             with_reducible rfl
            rotate_left
            ·simp only [Act.put, List.setIfInBounds_toArray, List.set_cons_zero, List.set_cons_succ, i64_w, i32_w]
             rfl
            refine pA_ 19 49 x8tr41_20 HT_.out ?_
            refine pA_ 20 50 x8tr41_21 HT_.out ?_
            refine pA_ 21 51 x8tr41_22 HT_.out ?_
            refine pU_ 22 52 x8tr41_23 HT_.out ?_
            refine pU_ 23 53 x8tr41_24 HT_.out ?_
            refine pU_ 24 54 x8tr41_25 HT_.out ?_
            refine pA_ 25 55 x8tr41_26 HT_.out ?_
            refine pA_ 26 56 x8tr41_27 HT_.out ?_
            refine pU_ 27 57 x8tr41_28 HT_.out ?_
            refine pU_ 28 58 x8tr41_29 HT_.out ?_
            refine pU_ 29 59 x8tr41_30 HT_.out ?_
            refine pU_ 30 60 x8tr41_31 HT_.out ?_
            refine pU_ 31 61 x8tr41_32 HT_.out ?_
            refine pU_ 32 62 x8tr41_33 HT_.out ?_
            refine pU_ 33 63 x8tr41_34 HT_.out ?_
            refine pU_ 34 64 x8tr41_35 HT_.out ?_
            refine pU_ 35 65 x8tr41_36 HT_.out ?_
            refine pU_ 36 66 x8tr41_37 HT_.out ?_
            refine pU_ 37 67 x8tr41_38 HT_.out ?_
            refine pU_ 38 68 x8tr41_39 HT_.out ?_
            refine pU_ 39 69 x8tr41_40 HT_.out ?_
            refine pA_ 40 70 x8tr41_41 HT_.out ?_
            refine done_ (done_of HT_.out (by kernel_rfl)) ?_
            try go_wp2
            go_ret
            exact ⟨by first | rfl | (simp [errW_none, errW_some] <;> rfl) | (simp [*, errW_none, errW_some] <;> rfl), by repeat (first | (with_reducible first | exact HB.out | apply below_alloc | apply pw_below_drewN | apply below_drew1 | refine below_set ?_ GE175.out) | exact HB.out)⟩
           ·rw [if_neg c15] at H
            have c15b0 : decide (((rd_T27 l0 x3_2).f2) < 0) = false := decide_eq_false c15
            clear c15
            by_cases c21 : ((rd_T27 l0 x3_2).f2) > 281474976710656
            ·rw [if_pos c21] at H
             have c21b0 : decide (281474976710656 < ((rd_T27 l0 x3_2).f2)) = true := decide_eq_true c21
             clear c21
             obtain rfl := Option.some.inj H
             have p174 : 0 ≤ (x3_2 : Int) := of_decide_eq_true (by first | (with_reducible assumption) | assumption)
             have q174 : x3_2 < (l0.length : Int) := of_decide_eq_true (by first | (with_reducible assumption) | assumption)
             obtain ⟨ad174, e174, hx174_0, hx174_1, hx174_2, hx174_3⟩ := at_T27 HR0.out x3_2 p174 q174
             cases e174
             replace hx174_0 := (HB.out.cell (World.block_lt_of_cell? w _ hx174_0)).trans hx174_0
             replace hx174_1 := (HB.out.cell (World.block_lt_of_cell? w _ hx174_1)).trans hx174_1
             replace hx174_2 := (HB.out.cell (World.block_lt_of_cell? w _ hx174_2)).trans hx174_2
             replace hx174_3 := (HB.out.cell (World.block_lt_of_cell? w _ hx174_3)).trans hx174_3
             replace p174 := eq_true p174
             replace q174 := eq_true q174
             try go_wp2_with (first | ((with_reducible refine gate_dst (N := 4) rfl ?_); (try (refine gate_guard (by rfl) ?_; dsimp only)); refine box_event ?hg (N := 4) ?hd (cs := #[.string (⟨#[]⟩ : ByteArray), .int .i64 0, .int .i64 0, .int .i64 0]) (t := 27) ?hr ?_; (case hd => rfl); (case hg => rfl); (case hr => first | (go_simp; done) | (go_simp; rfl)); intro gb175 hg w22 hbox hb; have n0_ := Aside0.mk (below_step (by repeat (first | (with_reducible first | exact HB.out | apply below_alloc | apply pw_below_drewN | apply below_drew1) | exact HB.out)) hb); have n1_ := Aside0.mk (hbox); have n2_ := Aside0.mk ((by rw [hg]; exact (below_size (by repeat (first | (with_reducible first | exact HB.out | apply below_alloc | apply pw_below_drewN | apply below_drew1) | exact HB.out))) : w.heap.size ≤ gb175)); have n3_ := Aside0.mk ((by rw [hg]; exact (below_size (by repeat (first | (with_reducible first | exact HB.out | apply below_alloc | apply pw_below_drewN | apply below_drew1) | exact HB.out))) : w.heap.size ≤ gb175)); clear HB; have HB := n0_; have BK175 := n1_; have GW175 := n2_; have GE175 := n3_; clear n0_ n1_ n2_ n3_; clear hb hbox hg; have hcz23_0 : w22.cell? ⟨gb175, 0, none⟩ = some (.string (⟨#[]⟩ : ByteArray)) := (blk_cell BK175.out 0).trans rfl; have hcz23_1 : w22.cell? ⟨gb175, 1, none⟩ = some (.int .i64 0) := (blk_cell BK175.out 1).trans rfl; have hcz23_2 : w22.cell? ⟨gb175, 2, none⟩ = some (.int .i64 0) := (blk_cell BK175.out 2).trans rfl; have hcz23_3 : w22.cell? ⟨gb175, 3, none⟩ = some (.int .i64 0) := (blk_cell BK175.out 3).trans rfl; have hfz23_0 := blk_frozen BK175.out 0; have hfz23_1 := blk_frozen BK175.out 1; have hfz23_2 := blk_frozen BK175.out 2; have hfz23_3 := blk_frozen BK175.out 3))
             have n0_ : Aside0 (((((w22.setCell ⟨gb175, 0, none⟩ (.string ((rd_T27 l0 x3_2).f0))).setCell ⟨gb175, 1, none⟩ (.int .i64 ((rd_T27 l0 x3_2).f1))).setCell ⟨gb175, 2, none⟩ (.int .i64 ((rd_T27 l0 x3_2).f2))).setCell ⟨gb175, 3, none⟩ (.int .i64 ((rd_T27 l0 x3_2).f3))).heap[gb175]? = some (.cells #[.string ((rd_T27 l0 x3_2).f0), .int .i64 ((rd_T27 l0 x3_2).f1), .int .i64 ((rd_T27 l0 x3_2).f2), .int .i64 ((rd_T27 l0 x3_2).f3)] 27 (0, 0))) := ⟨by (with_reducible repeat (first | refine blk_drewN ?_ _ | refine blk_drew ?_ | refine blk_alloc ?_ _)); refine blk_put (cs := #[.string ((rd_T27 l0 x3_2).f0), .int .i64 ((rd_T27 l0 x3_2).f1), .int .i64 ((rd_T27 l0 x3_2).f2), .int .i64 0]) ?_ 3 _ rfl; (with_reducible repeat (first | refine blk_drewN ?_ _ | refine blk_drew ?_ | refine blk_alloc ?_ _)); refine blk_put (cs := #[.string ((rd_T27 l0 x3_2).f0), .int .i64 ((rd_T27 l0 x3_2).f1), .int .i64 0, .int .i64 0]) ?_ 2 _ rfl; (with_reducible repeat (first | refine blk_drewN ?_ _ | refine blk_drew ?_ | refine blk_alloc ?_ _)); refine blk_put (cs := #[.string ((rd_T27 l0 x3_2).f0), .int .i64 0, .int .i64 0, .int .i64 0]) ?_ 1 _ rfl; (with_reducible repeat (first | refine blk_drewN ?_ _ | refine blk_drew ?_ | refine blk_alloc ?_ _)); refine blk_put (cs := #[.string (⟨#[]⟩ : ByteArray), .int .i64 0, .int .i64 0, .int .i64 0]) ?_ 0 _ rfl; (with_reducible repeat (first | refine blk_drewN ?_ _ | refine blk_drew ?_ | refine blk_alloc ?_ _)); exact BK175.out⟩
             have n1_ : Aside0 (Below w.heap.size w ((((w22.setCell ⟨gb175, 0, none⟩ (.string ((rd_T27 l0 x3_2).f0))).setCell ⟨gb175, 1, none⟩ (.int .i64 ((rd_T27 l0 x3_2).f1))).setCell ⟨gb175, 2, none⟩ (.int .i64 ((rd_T27 l0 x3_2).f2))).setCell ⟨gb175, 3, none⟩ (.int .i64 ((rd_T27 l0 x3_2).f3)))) := ⟨by repeat (first | (with_reducible first | exact HB.out | apply below_alloc | apply pw_below_drewN | apply below_drew1 | refine below_set ?_ GE175.out) | exact HB.out)⟩
             (try clear BK175)
             (try clear HB)
             generalize ((((w22.setCell ⟨gb175, 0, none⟩ (.string ((rd_T27 l0 x3_2).f0))).setCell ⟨gb175, 1, none⟩ (.int .i64 ((rd_T27 l0 x3_2).f1))).setCell ⟨gb175, 2, none⟩ (.int .i64 ((rd_T27 l0 x3_2).f2))).setCell ⟨gb175, 3, none⟩ (.int .i64 ((rd_T27 l0 x3_2).f3))) = w24 at n0_ n1_ ⊢
             have BK175 := n0_
             have HB := n1_
             clear n0_ n1_
             have n0_ := Aside0.mk (blk_drew BK175.out)
             have n1_ := Aside0.mk (below_drew1 HB.out)
             clear BK175
             clear HB
             have BK175 := n0_
             have HB := n1_
             clear n0_ n1_
             refine start_ (n := 41) (S := fun w' => w'.cell? ⟨gb175, 0, none⟩ = some (.string ((rd_T27 l0 x3_2).f0)) ∧ w'.cell? ⟨gb175, 1, none⟩ = some (.int .i64 ((rd_T27 l0 x3_2).f1)) ∧ w'.cell? ⟨gb175, 2, none⟩ = some (.int .i64 ((rd_T27 l0 x3_2).f2)) ∧ w'.cell? ⟨gb175, 3, none⟩ = some (.int .i64 ((rd_T27 l0 x3_2).f3))) (ds := []) x8tr41_0 (by kernel_rfl) rfl rfl ⟨(blk_cell BK175.out 0).trans rfl, (blk_cell BK175.out 1).trans rfl, (blk_cell BK175.out 2).trans rfl, (blk_cell BK175.out 3).trans rfl⟩ (fun hHeld => ?_); refine with_tabW cantonref14_Right.tab7 cantonref14_Right.bits7 (fun HT_ HW_ => ?_)
             generalize w24.drew = w25 at BK175 HB hHeld ⊢
             refine pA_ 0 30 x8tr41_1 HT_.out ?_
             refine take_ (i := 1) (N := some 31) (v := ?_) (a' := ?_) x8tr41_2 rfl rfl (take_ofW HT_.out HW_.out (by kernel_rfl)) (fun _ _ _ h => h) (Or.inl ⟨by rfl, ?_⟩) hHeld ?_ ?_
             rotate_left
             ·rintro w' ⟨s0, s1, s2, s3⟩
              go_simp
              with_reducible rfl
             rotate_left
             ·simp only [Act.put, List.setIfInBounds_toArray, List.set_cons_zero, List.set_cons_succ, i64_w, i32_w]
              rfl
             refine one_ (i := 2) (N := some 32) x8tr41_3 rfl rfl (one_of HT_.out (by kernel_rfl)) (by decide) (fun K hK => ?_)
             refine goes_ Try.func11 (by kernel_rfl) rfl #[.string ((rd_T27 l0 x3_2).f0)] (by rfl) rfl rfl (by (try simp only [List.map_toArray, List.map_cons, List.map_nil]); first | done | rfl | (simp only [List.length_drop, List.length_take]; rfl)) ?_
             with_reducible refine (cantonref01_Right.calls k2 ((rd_T27 l0 x3_2).f0) true _ A9.out).mono ?_
             rintro e w26 ⟨rfl, hb⟩
             refine ⟨_, rfl, ?_⟩
             have n0_ := Aside0.mk (blk_below (g := gb175) (o := .cells #[.string ((rd_T27 l0 x3_2).f0), .int .i64 ((rd_T27 l0 x3_2).f1), .int .i64 ((rd_T27 l0 x3_2).f2), .int .i64 ((rd_T27 l0 x3_2).f3)] 27 (0, 0)) (by (with_reducible repeat (first | refine blk_drewN ?_ _ | refine blk_drew ?_ | refine blk_alloc ?_ _)); exact BK175.out) hb)
             have n1_ := Aside0.mk (below_step (by repeat (first | (with_reducible first | exact HB.out | apply below_alloc | apply pw_below_drewN | apply below_drew1 | refine below_set ?_ GE175.out) | exact HB.out)) hb)
             clear BK175
             clear HB
             have BK175 := n0_
             have HB := n1_
             clear n0_ n1_
             (try clear hb)
             (try clear hb2)
             (try clear hk)
             (try clear hi)
             refine hK.out _ _ ⟨(blk_cell BK175.out 0).trans rfl, (blk_cell BK175.out 1).trans rfl, (blk_cell BK175.out 2).trans rfl, (blk_cell BK175.out 3).trans rfl⟩ (fun hHeld => ?_)
             clear hK K
             refine norm_ (a' := ?_) ?_ ?_
             rotate_left
             ·show Act.put _ (some 32) _ = _
              simp only [Act.put, List.setIfInBounds_toArray, List.set_cons_zero, List.set_cons_succ, i64_w, i32_w]
              rfl
             refine pA_ 3 33 x8tr41_4 HT_.out ?_
             refine pA_ 4 34 x8tr41_5 HT_.out ?_
             refine pA_ 5 35 x8tr41_6 HT_.out ?_
             refine take_ (i := 6) (N := some 36) (v := ?_) (a' := ?_) x8tr41_7 rfl rfl (take_ofW HT_.out HW_.out (by kernel_rfl)) (fun _ _ _ h => h) (Or.inl ⟨by rfl, ?_⟩) hHeld ?_ ?_
             rotate_left
             ·rintro w' ⟨s0, s1, s2, s3⟩
              go_simp
              with_reducible rfl
             rotate_left
             ·simp only [Act.put, List.setIfInBounds_toArray, List.set_cons_zero, List.set_cons_succ, i64_w, i32_w]
              rfl
             refine one_ (i := 7) (N := some 37) x8tr41_8 rfl rfl (one_of HT_.out (by kernel_rfl)) (by decide) (fun K hK => ?_)
             refine goes_ Try.func21 (by kernel_rfl) rfl #[.int .i64 ((rd_T27 l0 x3_2).f1)] (by rfl) rfl rfl (by (try simp only [List.map_toArray, List.map_cons, List.map_nil]); first | done | rfl | (simp only [List.length_drop, List.length_take]; rfl)) ?_
             with_reducible refine (cantonref14_group.calls ((rd_T27 l0 x3_2).f1) true _ A11.out).mono ?_
             rintro e w' ⟨rfl, ⟨nd, rfl⟩⟩
             refine ⟨_, rfl, ?_⟩
             refine hK.out _ _ ⟨(blk_cell BK175.out 0).trans rfl, (blk_cell BK175.out 1).trans rfl, (blk_cell BK175.out 2).trans rfl, (blk_cell BK175.out 3).trans rfl⟩ (fun hHeld => ?_)
             clear hK K
             refine norm_ (a' := ?_) ?_ ?_
             rotate_left
             ·show Act.put _ (some 37) _ = _
              simp only [Act.put, List.setIfInBounds_toArray, List.set_cons_zero, List.set_cons_succ, i64_w, i32_w]
              rfl
             refine pA_ 8 38 x8tr41_9 HT_.out ?_
             refine pA_ 9 39 x8tr41_10 HT_.out ?_
             refine pA_ 10 40 x8tr41_11 HT_.out ?_
             refine pA_ 11 41 x8tr41_12 HT_.out ?_
             refine take_ (i := 12) (N := some 42) (v := ?_) (a' := ?_) x8tr41_13 rfl rfl (take_ofW HT_.out HW_.out (by kernel_rfl)) (fun _ _ _ h => h) (Or.inl ⟨by rfl, ?_⟩) hHeld ?_ ?_
             rotate_left
             ·rintro w' ⟨s0, s1, s2, s3⟩
              go_simp
              with_reducible rfl
             rotate_left
             ·simp only [Act.put, List.setIfInBounds_toArray, List.set_cons_zero, List.set_cons_succ, i64_w, i32_w]
              rfl
             refine one_ (i := 13) (N := some 43) x8tr41_14 rfl rfl (one_of HT_.out (by kernel_rfl)) (by decide) (fun K hK => ?_)
             refine goes_ Try.func21 (by kernel_rfl) rfl #[.int .i64 ((rd_T27 l0 x3_2).f3)] (by rfl) rfl rfl (by (try simp only [List.map_toArray, List.map_cons, List.map_nil]); first | done | rfl | (simp only [List.length_drop, List.length_take]; rfl)) ?_
             with_reducible refine (cantonref14_group.calls ((rd_T27 l0 x3_2).f3) true _ A13.out).mono ?_
             rintro e w' ⟨rfl, ⟨nd, rfl⟩⟩
             refine ⟨_, rfl, ?_⟩
             refine hK.out _ _ ⟨(blk_cell BK175.out 0).trans rfl, (blk_cell BK175.out 1).trans rfl, (blk_cell BK175.out 2).trans rfl, (blk_cell BK175.out 3).trans rfl⟩ (fun hHeld => ?_)
             clear hK K
             refine norm_ (a' := ?_) ?_ ?_
             rotate_left
             ·show Act.put _ (some 43) _ = _
              simp only [Act.put, List.setIfInBounds_toArray, List.set_cons_zero, List.set_cons_succ, i64_w, i32_w]
              rfl
             refine pA_ 14 44 x8tr41_15 HT_.out ?_
             refine pA_ 15 45 x8tr41_16 HT_.out ?_
             refine pA_ 16 46 x8tr41_17 HT_.out ?_
             refine pA_ 17 47 x8tr41_18 HT_.out ?_
             refine take_ (i := 18) (N := some 48) (v := ?_) (a' := ?_) x8tr41_19 rfl rfl (take_ofW HT_.out HW_.out (by kernel_rfl)) (fun _ _ _ h => h) (Or.inl ⟨by rfl, ?_⟩) hHeld ?_ ?_
             rotate_left
             ·rintro w' ⟨s0, s1, s2, s3⟩
              go_simp
              with_reducible rfl
             rotate_left
             ·simp only [Act.put, List.setIfInBounds_toArray, List.set_cons_zero, List.set_cons_succ, i64_w, i32_w]
              rfl
             refine pA_ 19 49 x8tr41_20 HT_.out ?_
             refine pA_ 20 50 x8tr41_21 HT_.out ?_
             refine pA_ 21 51 x8tr41_22 HT_.out ?_
             refine pA_ 22 52 x8tr41_23 HT_.out ?_
             refine take_ (i := 23) (N := some 53) (v := ?_) (a' := ?_) x8tr41_24 rfl rfl (take_ofW HT_.out HW_.out (by kernel_rfl)) (fun _ _ _ h => h) (Or.inl ⟨by rfl, ?_⟩) hHeld ?_ ?_
             rotate_left
             ·rintro w' ⟨s0, s1, s2, s3⟩
              go_simp
              with_reducible rfl
             rotate_left
             ·simp only [Act.put, List.setIfInBounds_toArray, List.set_cons_zero, List.set_cons_succ, i64_w, i32_w]
              rfl
             refine pA_ 24 54 x8tr41_25 HT_.out ?_
             refine pA_ 25 55 x8tr41_26 HT_.out ?_
             refine pA_ 26 56 x8tr41_27 HT_.out ?_
             refine pU_ 27 57 x8tr41_28 HT_.out ?_
             refine pU_ 28 58 x8tr41_29 HT_.out ?_
             refine pU_ 29 59 x8tr41_30 HT_.out ?_
             refine pU_ 30 60 x8tr41_31 HT_.out ?_
             refine pU_ 31 61 x8tr41_32 HT_.out ?_
             refine pU_ 32 62 x8tr41_33 HT_.out ?_
             refine pU_ 33 63 x8tr41_34 HT_.out ?_
             refine pU_ 34 64 x8tr41_35 HT_.out ?_
             refine pU_ 35 65 x8tr41_36 HT_.out ?_
             refine pU_ 36 66 x8tr41_37 HT_.out ?_
             refine pU_ 37 67 x8tr41_38 HT_.out ?_
             refine pU_ 38 68 x8tr41_39 HT_.out ?_
             refine pU_ 39 69 x8tr41_40 HT_.out ?_
             refine pA_ 40 70 x8tr41_41 HT_.out ?_
             refine done_ (done_of HT_.out (by kernel_rfl)) ?_
             try go_wp2
             go_ret
             exact ⟨by first | rfl | (simp [errW_none, errW_some] <;> rfl) | (simp [*, errW_none, errW_some] <;> rfl), by repeat (first | (with_reducible first | exact HB.out | apply below_alloc | apply pw_below_drewN | apply below_drew1 | refine below_set ?_ GE175.out) | exact HB.out)⟩
            ·rw [if_neg c21] at H
             have c21b0 : decide (281474976710656 < ((rd_T27 l0 x3_2).f2)) = false := decide_eq_false c21
             clear c21
             by_cases c27 : x3_2 > 0
             ·rw [if_pos c27] at H
              have c27b0 : decide (0 < x3_2) = true := decide_eq_true c27
              clear c27
              obtain ⟨ji28, hji28⟩ : ∃ j_ : Int, (wrap64 (x3_2 - 1)) = j_ := ⟨_, rfl⟩
              replace H : (if 0 ≤ (ji28) then (if (ji28) < (l0.length : Int) then (if ((Op.bytesLess (((rd_T27 l0 (ji28)).f0).toList) (((rd_T27 l0 x3_2).f0).toList)) = true) then (cantonref14_Right.l0 k2 l0 (wrap64 (x3_2 + 1))) else (some false)) else (none)) else (none)) = some r := by first | (rw [hji28] at H; exact H) | (simp only [hji28] at H ⊢; exact H)
              (try rw [hji28] at A9)
              (try rw [hji28] at A11)
              (try rw [hji28] at A13)
              have hji28w : (IntKind.i64.wrap (x3_2 - 1)) = ji28 := (i64_w _).trans hji28
              by_cases c29 : 0 ≤ (ji28)
              ·rw [if_pos c29] at H
               have c29b0 : decide (0 ≤ (ji28)) = true := decide_eq_true c29
               clear c29
               by_cases c30 : (ji28) < (l0.length : Int)
               ·rw [if_pos c30] at H
                have c30b0 : decide ((ji28) < (l0.length : Int)) = true := decide_eq_true c30
                clear c30
                by_cases c31 : ((Op.bytesLess (((rd_T27 l0 (ji28)).f0).toList) (((rd_T27 l0 x3_2).f0).toList)) = true)
                ·rw [if_pos c31] at H
                 have c31b0 : (Op.bytesLess (((rd_T27 l0 (ji28)).f0).toList) (((rd_T27 l0 x3_2).f0).toList)) = true := c31
                 clear c31
                 have H' := Aside0.mk H
                 clear H
                 have p174 : 0 ≤ (x3_2 : Int) := of_decide_eq_true (by first | (with_reducible assumption) | assumption)
                 have q174 : x3_2 < (l0.length : Int) := of_decide_eq_true (by first | (with_reducible assumption) | assumption)
                 obtain ⟨ad174, e174, hx174_0, hx174_1, hx174_2, hx174_3⟩ := at_T27 HR0.out x3_2 p174 q174
                 cases e174
                 replace hx174_0 := (HB.out.cell (World.block_lt_of_cell? w _ hx174_0)).trans hx174_0
                 replace hx174_1 := (HB.out.cell (World.block_lt_of_cell? w _ hx174_1)).trans hx174_1
                 replace hx174_2 := (HB.out.cell (World.block_lt_of_cell? w _ hx174_2)).trans hx174_2
                 replace hx174_3 := (HB.out.cell (World.block_lt_of_cell? w _ hx174_3)).trans hx174_3
                 replace p174 := eq_true p174
                 replace q174 := eq_true q174
                 try go_wp2_with (first | ((with_reducible refine gate_dst (N := 4) rfl ?_); (try (refine gate_guard (by rfl) ?_; dsimp only)); refine box_event ?hg (N := 4) ?hd (cs := #[.string (⟨#[]⟩ : ByteArray), .int .i64 0, .int .i64 0, .int .i64 0]) (t := 27) ?hr ?_; (case hd => rfl); (case hg => rfl); (case hr => first | (go_simp; done) | (go_simp; rfl)); intro gb175 hg w32 hbox hb; have n0_ := Aside0.mk (below_step (by repeat (first | (with_reducible first | exact HB.out | apply below_alloc | apply pw_below_drewN | apply below_drew1) | exact HB.out)) hb); have n1_ := Aside0.mk (hbox); have n2_ := Aside0.mk ((by rw [hg]; exact (below_size (by repeat (first | (with_reducible first | exact HB.out | apply below_alloc | apply pw_below_drewN | apply below_drew1) | exact HB.out))) : w.heap.size ≤ gb175)); have n3_ := Aside0.mk ((by rw [hg]; exact (below_size (by repeat (first | (with_reducible first | exact HB.out | apply below_alloc | apply pw_below_drewN | apply below_drew1) | exact HB.out))) : w.heap.size ≤ gb175)); clear HB; have HB := n0_; have BK175 := n1_; have GW175 := n2_; have GE175 := n3_; clear n0_ n1_ n2_ n3_; clear hb hbox hg; have hcz33_0 : w32.cell? ⟨gb175, 0, none⟩ = some (.string (⟨#[]⟩ : ByteArray)) := (blk_cell BK175.out 0).trans rfl; have hcz33_1 : w32.cell? ⟨gb175, 1, none⟩ = some (.int .i64 0) := (blk_cell BK175.out 1).trans rfl; have hcz33_2 : w32.cell? ⟨gb175, 2, none⟩ = some (.int .i64 0) := (blk_cell BK175.out 2).trans rfl; have hcz33_3 : w32.cell? ⟨gb175, 3, none⟩ = some (.int .i64 0) := (blk_cell BK175.out 3).trans rfl; have hfz33_0 := blk_frozen BK175.out 0; have hfz33_1 := blk_frozen BK175.out 1; have hfz33_2 := blk_frozen BK175.out 2; have hfz33_3 := blk_frozen BK175.out 3))
                 have n0_ : Aside0 (((((w32.setCell ⟨gb175, 0, none⟩ (.string ((rd_T27 l0 x3_2).f0))).setCell ⟨gb175, 1, none⟩ (.int .i64 ((rd_T27 l0 x3_2).f1))).setCell ⟨gb175, 2, none⟩ (.int .i64 ((rd_T27 l0 x3_2).f2))).setCell ⟨gb175, 3, none⟩ (.int .i64 ((rd_T27 l0 x3_2).f3))).heap[gb175]? = some (.cells #[.string ((rd_T27 l0 x3_2).f0), .int .i64 ((rd_T27 l0 x3_2).f1), .int .i64 ((rd_T27 l0 x3_2).f2), .int .i64 ((rd_T27 l0 x3_2).f3)] 27 (0, 0))) := ⟨by (with_reducible repeat (first | refine blk_drewN ?_ _ | refine blk_drew ?_ | refine blk_alloc ?_ _)); refine blk_put (cs := #[.string ((rd_T27 l0 x3_2).f0), .int .i64 ((rd_T27 l0 x3_2).f1), .int .i64 ((rd_T27 l0 x3_2).f2), .int .i64 0]) ?_ 3 _ rfl; (with_reducible repeat (first | refine blk_drewN ?_ _ | refine blk_drew ?_ | refine blk_alloc ?_ _)); refine blk_put (cs := #[.string ((rd_T27 l0 x3_2).f0), .int .i64 ((rd_T27 l0 x3_2).f1), .int .i64 0, .int .i64 0]) ?_ 2 _ rfl; (with_reducible repeat (first | refine blk_drewN ?_ _ | refine blk_drew ?_ | refine blk_alloc ?_ _)); refine blk_put (cs := #[.string ((rd_T27 l0 x3_2).f0), .int .i64 0, .int .i64 0, .int .i64 0]) ?_ 1 _ rfl; (with_reducible repeat (first | refine blk_drewN ?_ _ | refine blk_drew ?_ | refine blk_alloc ?_ _)); refine blk_put (cs := #[.string (⟨#[]⟩ : ByteArray), .int .i64 0, .int .i64 0, .int .i64 0]) ?_ 0 _ rfl; (with_reducible repeat (first | refine blk_drewN ?_ _ | refine blk_drew ?_ | refine blk_alloc ?_ _)); exact BK175.out⟩
                 have n1_ : Aside0 (Below w.heap.size w ((((w32.setCell ⟨gb175, 0, none⟩ (.string ((rd_T27 l0 x3_2).f0))).setCell ⟨gb175, 1, none⟩ (.int .i64 ((rd_T27 l0 x3_2).f1))).setCell ⟨gb175, 2, none⟩ (.int .i64 ((rd_T27 l0 x3_2).f2))).setCell ⟨gb175, 3, none⟩ (.int .i64 ((rd_T27 l0 x3_2).f3)))) := ⟨by repeat (first | (with_reducible first | exact HB.out | apply below_alloc | apply pw_below_drewN | apply below_drew1 | refine below_set ?_ GE175.out) | exact HB.out)⟩
                 (try clear BK175)
                 (try clear HB)
                 generalize ((((w32.setCell ⟨gb175, 0, none⟩ (.string ((rd_T27 l0 x3_2).f0))).setCell ⟨gb175, 1, none⟩ (.int .i64 ((rd_T27 l0 x3_2).f1))).setCell ⟨gb175, 2, none⟩ (.int .i64 ((rd_T27 l0 x3_2).f2))).setCell ⟨gb175, 3, none⟩ (.int .i64 ((rd_T27 l0 x3_2).f3))) = w34 at n0_ n1_ ⊢
                 have BK175 := n0_
                 have HB := n1_
                 clear n0_ n1_
                 have n0_ := Aside0.mk (blk_drew BK175.out)
                 have n1_ := Aside0.mk (below_drew1 HB.out)
                 clear BK175
                 clear HB
                 have BK175 := n0_
                 have HB := n1_
                 clear n0_ n1_
                 have p179 : 0 ≤ ((ji28) : Int) := of_decide_eq_true (by first | (with_reducible assumption) | assumption)
                 have q179 : (ji28) < (l0.length : Int) := of_decide_eq_true (by first | (with_reducible assumption) | assumption)
                 obtain ⟨ad179, e179, hx179_0, hx179_1, hx179_2, hx179_3⟩ := at_T27 HR0.out (ji28) p179 q179
                 have hw179_3 := hx179_3
                 have hw179_2 := hx179_2
                 have hw179_1 := hx179_1
                 have hw179_0 := hx179_0
                 obtain rfl : ad174 = ad179 := (by injection e179)
                 replace hx179_0 := (HB.out.cell (World.block_lt_of_cell? w _ hx179_0)).trans hx179_0
                 replace hx179_1 := (HB.out.cell (World.block_lt_of_cell? w _ hx179_1)).trans hx179_1
                 replace hx179_2 := (HB.out.cell (World.block_lt_of_cell? w _ hx179_2)).trans hx179_2
                 replace hx179_3 := (HB.out.cell (World.block_lt_of_cell? w _ hx179_3)).trans hx179_3
                 replace p179 := eq_true p179
                 replace q179 := eq_true q179
                 refine start_ (n := 41) (S := fun w' => w'.cell? ⟨gb175, 0, none⟩ = some (.string ((rd_T27 l0 x3_2).f0)) ∧ w'.cell? ⟨gb175, 1, none⟩ = some (.int .i64 ((rd_T27 l0 x3_2).f1)) ∧ w'.cell? ⟨gb175, 2, none⟩ = some (.int .i64 ((rd_T27 l0 x3_2).f2)) ∧ w'.cell? ⟨gb175, 3, none⟩ = some (.int .i64 ((rd_T27 l0 x3_2).f3)) ∧ w'.cell? (ad174.add (((ji28)).toNat * 4)) = some (.string ((rd_T27 l0 (ji28)).f0)) ∧ w'.cell? ⟨(ad174.add (((ji28)).toNat * 4)).block, (ad174.add (((ji28)).toNat * 4)).off + 1, none⟩ = some (.int .i64 ((rd_T27 l0 (ji28)).f1)) ∧ w'.cell? ⟨(ad174.add (((ji28)).toNat * 4)).block, (ad174.add (((ji28)).toNat * 4)).off + 2, none⟩ = some (.int .i64 ((rd_T27 l0 (ji28)).f2)) ∧ w'.cell? ⟨(ad174.add (((ji28)).toNat * 4)).block, (ad174.add (((ji28)).toNat * 4)).off + 3, none⟩ = some (.int .i64 ((rd_T27 l0 (ji28)).f3))) (ds := []) x8tr41_0 (by kernel_rfl) rfl rfl ⟨(blk_cell BK175.out 0).trans rfl, (blk_cell BK175.out 1).trans rfl, (blk_cell BK175.out 2).trans rfl, (blk_cell BK175.out 3).trans rfl, ((HB.out.cell (World.block_lt_of_cell? w _ hw179_0)).trans hw179_0), ((HB.out.cell (World.block_lt_of_cell? w _ hw179_1)).trans hw179_1), ((HB.out.cell (World.block_lt_of_cell? w _ hw179_2)).trans hw179_2), ((HB.out.cell (World.block_lt_of_cell? w _ hw179_3)).trans hw179_3)⟩ (fun hHeld => ?_); refine with_tabW cantonref14_Right.tab7 cantonref14_Right.bits7 (fun HT_ HW_ => ?_)
                 generalize w34.drew = w35 at BK175 HB hx179_0 hx179_1 hx179_2 hx179_3 hHeld ⊢
                 refine pA_ 0 30 x8tr41_1 HT_.out ?_
                 refine take_ (i := 1) (N := some 31) (v := ?_) (a' := ?_) x8tr41_2 rfl rfl (take_ofW HT_.out HW_.out (by kernel_rfl)) (fun _ _ _ h => h) (Or.inl ⟨by rfl, ?_⟩) hHeld ?_ ?_
                 rotate_left
                 ·rintro w' ⟨s0, s1, s2, s3, s4, s5, s6, s7⟩
                  go_simp
                  with_reducible rfl
                 rotate_left
                 ·simp only [Act.put, List.setIfInBounds_toArray, List.set_cons_zero, List.set_cons_succ, i64_w, i32_w]
                  rfl
                 refine one_ (i := 2) (N := some 32) x8tr41_3 rfl rfl (one_of HT_.out (by kernel_rfl)) (by decide) (fun K hK => ?_)
                 refine goes_ Try.func11 (by kernel_rfl) rfl #[.string ((rd_T27 l0 x3_2).f0)] (by rfl) rfl rfl (by (try simp only [List.map_toArray, List.map_cons, List.map_nil]); first | done | rfl | (simp only [List.length_drop, List.length_take]; rfl)) ?_
                 with_reducible refine (cantonref01_Right.calls k2 ((rd_T27 l0 x3_2).f0) true _ A9.out).mono ?_
                 rintro e w36 ⟨rfl, hb⟩
                 refine ⟨_, rfl, ?_⟩
                 have n0_ := Aside0.mk (blk_below (g := gb175) (o := .cells #[.string ((rd_T27 l0 x3_2).f0), .int .i64 ((rd_T27 l0 x3_2).f1), .int .i64 ((rd_T27 l0 x3_2).f2), .int .i64 ((rd_T27 l0 x3_2).f3)] 27 (0, 0)) (by (with_reducible repeat (first | refine blk_drewN ?_ _ | refine blk_drew ?_ | refine blk_alloc ?_ _)); exact BK175.out) hb)
                 have n1_ := Aside0.mk (below_step (by repeat (first | (with_reducible first | exact HB.out | apply below_alloc | apply pw_below_drewN | apply below_drew1 | refine below_set ?_ GE175.out) | exact HB.out)) hb)
                 clear BK175
                 clear HB
                 have BK175 := n0_
                 have HB := n1_
                 clear n0_ n1_
                 (try clear hb)
                 (try clear hb2)
                 (try clear hk)
                 (try clear hi)
                 refine hK.out _ _ ⟨(blk_cell BK175.out 0).trans rfl, (blk_cell BK175.out 1).trans rfl, (blk_cell BK175.out 2).trans rfl, (blk_cell BK175.out 3).trans rfl, ((HB.out.cell (World.block_lt_of_cell? w _ hw179_0)).trans hw179_0), ((HB.out.cell (World.block_lt_of_cell? w _ hw179_1)).trans hw179_1), ((HB.out.cell (World.block_lt_of_cell? w _ hw179_2)).trans hw179_2), ((HB.out.cell (World.block_lt_of_cell? w _ hw179_3)).trans hw179_3)⟩ (fun hHeld => ?_)
                 clear hK K
                 refine norm_ (a' := ?_) ?_ ?_
                 rotate_left
                 ·show Act.put _ (some 32) _ = _
                  simp only [Act.put, List.setIfInBounds_toArray, List.set_cons_zero, List.set_cons_succ, i64_w, i32_w]
                  rfl
                 refine pA_ 3 33 x8tr41_4 HT_.out ?_
                 refine pA_ 4 34 x8tr41_5 HT_.out ?_
                 refine pA_ 5 35 x8tr41_6 HT_.out ?_
                 refine take_ (i := 6) (N := some 36) (v := ?_) (a' := ?_) x8tr41_7 rfl rfl (take_ofW HT_.out HW_.out (by kernel_rfl)) (fun _ _ _ h => h) (Or.inl ⟨by rfl, ?_⟩) hHeld ?_ ?_
                 rotate_left
                 ·rintro w' ⟨s0, s1, s2, s3, s4, s5, s6, s7⟩
                  go_simp
                  with_reducible rfl
                 rotate_left
                 ·simp only [Act.put, List.setIfInBounds_toArray, List.set_cons_zero, List.set_cons_succ, i64_w, i32_w]
                  rfl
                 refine one_ (i := 7) (N := some 37) x8tr41_8 rfl rfl (one_of HT_.out (by kernel_rfl)) (by decide) (fun K hK => ?_)
                 refine goes_ Try.func21 (by kernel_rfl) rfl #[.int .i64 ((rd_T27 l0 x3_2).f1)] (by rfl) rfl rfl (by (try simp only [List.map_toArray, List.map_cons, List.map_nil]); first | done | rfl | (simp only [List.length_drop, List.length_take]; rfl)) ?_
                 with_reducible refine (cantonref14_group.calls ((rd_T27 l0 x3_2).f1) true _ A11.out).mono ?_
                 rintro e w' ⟨rfl, ⟨nd, rfl⟩⟩
                 refine ⟨_, rfl, ?_⟩
                 refine hK.out _ _ ⟨(blk_cell BK175.out 0).trans rfl, (blk_cell BK175.out 1).trans rfl, (blk_cell BK175.out 2).trans rfl, (blk_cell BK175.out 3).trans rfl, ((HB.out.cell (World.block_lt_of_cell? w _ hw179_0)).trans hw179_0), ((HB.out.cell (World.block_lt_of_cell? w _ hw179_1)).trans hw179_1), ((HB.out.cell (World.block_lt_of_cell? w _ hw179_2)).trans hw179_2), ((HB.out.cell (World.block_lt_of_cell? w _ hw179_3)).trans hw179_3)⟩ (fun hHeld => ?_)
                 clear hK K
                 refine norm_ (a' := ?_) ?_ ?_
                 rotate_left
                 ·show Act.put _ (some 37) _ = _
                  simp only [Act.put, List.setIfInBounds_toArray, List.set_cons_zero, List.set_cons_succ, i64_w, i32_w]
                  rfl
                 refine pA_ 8 38 x8tr41_9 HT_.out ?_
                 refine pA_ 9 39 x8tr41_10 HT_.out ?_
                 refine pA_ 10 40 x8tr41_11 HT_.out ?_
                 refine pA_ 11 41 x8tr41_12 HT_.out ?_
                 refine take_ (i := 12) (N := some 42) (v := ?_) (a' := ?_) x8tr41_13 rfl rfl (take_ofW HT_.out HW_.out (by kernel_rfl)) (fun _ _ _ h => h) (Or.inl ⟨by rfl, ?_⟩) hHeld ?_ ?_
                 rotate_left
                 ·rintro w' ⟨s0, s1, s2, s3, s4, s5, s6, s7⟩
                  go_simp
                  with_reducible rfl
                 rotate_left
                 ·simp only [Act.put, List.setIfInBounds_toArray, List.set_cons_zero, List.set_cons_succ, i64_w, i32_w]
                  rfl
                 refine one_ (i := 13) (N := some 43) x8tr41_14 rfl rfl (one_of HT_.out (by kernel_rfl)) (by decide) (fun K hK => ?_)
                 refine goes_ Try.func21 (by kernel_rfl) rfl #[.int .i64 ((rd_T27 l0 x3_2).f3)] (by rfl) rfl rfl (by (try simp only [List.map_toArray, List.map_cons, List.map_nil]); first | done | rfl | (simp only [List.length_drop, List.length_take]; rfl)) ?_
                 with_reducible refine (cantonref14_group.calls ((rd_T27 l0 x3_2).f3) true _ A13.out).mono ?_
                 rintro e w' ⟨rfl, ⟨nd, rfl⟩⟩
                 refine ⟨_, rfl, ?_⟩
                 refine hK.out _ _ ⟨(blk_cell BK175.out 0).trans rfl, (blk_cell BK175.out 1).trans rfl, (blk_cell BK175.out 2).trans rfl, (blk_cell BK175.out 3).trans rfl, ((HB.out.cell (World.block_lt_of_cell? w _ hw179_0)).trans hw179_0), ((HB.out.cell (World.block_lt_of_cell? w _ hw179_1)).trans hw179_1), ((HB.out.cell (World.block_lt_of_cell? w _ hw179_2)).trans hw179_2), ((HB.out.cell (World.block_lt_of_cell? w _ hw179_3)).trans hw179_3)⟩ (fun hHeld => ?_)
                 clear hK K
                 refine norm_ (a' := ?_) ?_ ?_
                 rotate_left
                 ·show Act.put _ (some 43) _ = _
                  simp only [Act.put, List.setIfInBounds_toArray, List.set_cons_zero, List.set_cons_succ, i64_w, i32_w]
                  rfl
                 refine pA_ 14 44 x8tr41_15 HT_.out ?_
                 refine pA_ 15 45 x8tr41_16 HT_.out ?_
                 refine pA_ 16 46 x8tr41_17 HT_.out ?_
                 refine pA_ 17 47 x8tr41_18 HT_.out ?_
                 refine take_ (i := 18) (N := some 48) (v := ?_) (a' := ?_) x8tr41_19 rfl rfl (take_ofW HT_.out HW_.out (by kernel_rfl)) (fun _ _ _ h => h) (Or.inl ⟨by rfl, ?_⟩) hHeld ?_ ?_
                 rotate_left
                 ·rintro w' ⟨s0, s1, s2, s3, s4, s5, s6, s7⟩
                  go_simp
                  with_reducible rfl
                 rotate_left
                 ·simp only [Act.put, List.setIfInBounds_toArray, List.set_cons_zero, List.set_cons_succ, i64_w, i32_w]
                  rfl
                 refine pA_ 19 49 x8tr41_20 HT_.out ?_
                 refine pA_ 20 50 x8tr41_21 HT_.out ?_
                 refine pA_ 21 51 x8tr41_22 HT_.out ?_
                 refine pA_ 22 52 x8tr41_23 HT_.out ?_
                 refine take_ (i := 23) (N := some 53) (v := ?_) (a' := ?_) x8tr41_24 rfl rfl (take_ofW HT_.out HW_.out (by kernel_rfl)) (fun _ _ _ h => h) (Or.inl ⟨by rfl, ?_⟩) hHeld ?_ ?_
                 rotate_left
                 ·rintro w' ⟨s0, s1, s2, s3, s4, s5, s6, s7⟩
                  go_simp
                  with_reducible rfl
                 rotate_left
                 ·simp only [Act.put, List.setIfInBounds_toArray, List.set_cons_zero, List.set_cons_succ, i64_w, i32_w]
                  rfl
                 refine pA_ 24 54 x8tr41_25 HT_.out ?_
                 refine pA_ 25 55 x8tr41_26 HT_.out ?_
                 refine pA_ 26 56 x8tr41_27 HT_.out ?_
                 refine pA_ 27 57 x8tr41_28 HT_.out ?_
                 refine pA_ 28 58 x8tr41_29 HT_.out ?_
                 refine pA_ 29 59 x8tr41_30 HT_.out ?_
                 refine pA_ 30 60 x8tr41_31 HT_.out ?_
                 refine pA_ 31 61 x8tr41_32 HT_.out ?_
                 refine pA_ 32 62 x8tr41_33 HT_.out ?_
                 refine pA_ 33 63 x8tr41_34 HT_.out ?_
                 refine pA_ 34 64 x8tr41_35 HT_.out ?_
                 refine pA_ 36 66 x8tr41_m11111111111111111111111111111111111010000 HT_.out ?_
                 refine take_ (i := 35) (N := some 65) (v := ?_) (a' := ?_) x8tr41_37 rfl rfl (take_ofW HT_.out HW_.out (by kernel_rfl)) (fun _ _ _ h => h) (Or.inl ⟨by rfl, ?_⟩) hHeld ?_ ?_
                 rotate_left
                 ·rintro w' ⟨s0, s1, s2, s3, s4, s5, s6, s7⟩
                  go_simp
                  with_reducible rfl
                 rotate_left
                 ·simp only [Act.put, List.setIfInBounds_toArray, List.set_cons_zero, List.set_cons_succ, i64_w, i32_w]
                  rfl
                 refine take_ (i := 37) (N := some 67) (v := ?_) (a' := ?_) x8tr41_38 rfl rfl (take_ofW HT_.out HW_.out (by kernel_rfl)) (fun _ _ _ h => h) (Or.inl ⟨by rfl, ?_⟩) hHeld ?_ ?_
                 rotate_left
                 ·rintro w' ⟨s0, s1, s2, s3, s4, s5, s6, s7⟩
                  go_simp
                  with_reducible rfl
                 rotate_left
                 ·simp only [Act.put, List.setIfInBounds_toArray, List.set_cons_zero, List.set_cons_succ, i64_w, i32_w]
                  rfl
                 refine pA_ 38 68 x8tr41_39 HT_.out ?_
                 refine pA_ 39 69 x8tr41_40 HT_.out ?_
                 refine pA_ 40 70 x8tr41_41 HT_.out ?_
                 refine done_ (done_of HT_.out (by kernel_rfl)) ?_
                 try go_wp2
                 go_roundg k2
                 case measure => have := HJ1.out; have := HK2.out; omega
                 case rel => exact ⟨(wrap64 (x3_2 + 1)), (by first | rfl | (simp; done) | (simp [*]; done)), H', ⟨by have := HJ1.out; have := HK2.out; omega⟩, ⟨by repeat (first | (with_reducible first | exact HB.out | apply below_alloc | apply pw_below_drewN | apply below_drew1 | refine below_set ?_ GE175.out) | exact HB.out)⟩⟩
                ·rw [if_neg c31] at H
                 have c31b0 : (Op.bytesLess (((rd_T27 l0 (ji28)).f0).toList) (((rd_T27 l0 x3_2).f0).toList)) = false := by simpa using c31
                 clear c31
                 obtain rfl := Option.some.inj H
                 have p174 : 0 ≤ (x3_2 : Int) := of_decide_eq_true (by first | (with_reducible assumption) | assumption)
                 have q174 : x3_2 < (l0.length : Int) := of_decide_eq_true (by first | (with_reducible assumption) | assumption)
                 obtain ⟨ad174, e174, hx174_0, hx174_1, hx174_2, hx174_3⟩ := at_T27 HR0.out x3_2 p174 q174
                 cases e174
                 replace hx174_0 := (HB.out.cell (World.block_lt_of_cell? w _ hx174_0)).trans hx174_0
                 replace hx174_1 := (HB.out.cell (World.block_lt_of_cell? w _ hx174_1)).trans hx174_1
                 replace hx174_2 := (HB.out.cell (World.block_lt_of_cell? w _ hx174_2)).trans hx174_2
                 replace hx174_3 := (HB.out.cell (World.block_lt_of_cell? w _ hx174_3)).trans hx174_3
                 replace p174 := eq_true p174
                 replace q174 := eq_true q174
                 try go_wp2_with (first | ((with_reducible refine gate_dst (N := 4) rfl ?_); (try (refine gate_guard (by rfl) ?_; dsimp only)); refine box_event ?hg (N := 4) ?hd (cs := #[.string (⟨#[]⟩ : ByteArray), .int .i64 0, .int .i64 0, .int .i64 0]) (t := 27) ?hr ?_; (case hd => rfl); (case hg => rfl); (case hr => first | (go_simp; done) | (go_simp; rfl)); intro gb175 hg w37 hbox hb; have n0_ := Aside0.mk (below_step (by repeat (first | (with_reducible first | exact HB.out | apply below_alloc | apply pw_below_drewN | apply below_drew1) | exact HB.out)) hb); have n1_ := Aside0.mk (hbox); have n2_ := Aside0.mk ((by rw [hg]; exact (below_size (by repeat (first | (with_reducible first | exact HB.out | apply below_alloc | apply pw_below_drewN | apply below_drew1) | exact HB.out))) : w.heap.size ≤ gb175)); have n3_ := Aside0.mk ((by rw [hg]; exact (below_size (by repeat (first | (with_reducible first | exact HB.out | apply below_alloc | apply pw_below_drewN | apply below_drew1) | exact HB.out))) : w.heap.size ≤ gb175)); clear HB; have HB := n0_; have BK175 := n1_; have GW175 := n2_; have GE175 := n3_; clear n0_ n1_ n2_ n3_; clear hb hbox hg; have hcz38_0 : w37.cell? ⟨gb175, 0, none⟩ = some (.string (⟨#[]⟩ : ByteArray)) := (blk_cell BK175.out 0).trans rfl; have hcz38_1 : w37.cell? ⟨gb175, 1, none⟩ = some (.int .i64 0) := (blk_cell BK175.out 1).trans rfl; have hcz38_2 : w37.cell? ⟨gb175, 2, none⟩ = some (.int .i64 0) := (blk_cell BK175.out 2).trans rfl; have hcz38_3 : w37.cell? ⟨gb175, 3, none⟩ = some (.int .i64 0) := (blk_cell BK175.out 3).trans rfl; have hfz38_0 := blk_frozen BK175.out 0; have hfz38_1 := blk_frozen BK175.out 1; have hfz38_2 := blk_frozen BK175.out 2; have hfz38_3 := blk_frozen BK175.out 3))
                 have n0_ : Aside0 (((((w37.setCell ⟨gb175, 0, none⟩ (.string ((rd_T27 l0 x3_2).f0))).setCell ⟨gb175, 1, none⟩ (.int .i64 ((rd_T27 l0 x3_2).f1))).setCell ⟨gb175, 2, none⟩ (.int .i64 ((rd_T27 l0 x3_2).f2))).setCell ⟨gb175, 3, none⟩ (.int .i64 ((rd_T27 l0 x3_2).f3))).heap[gb175]? = some (.cells #[.string ((rd_T27 l0 x3_2).f0), .int .i64 ((rd_T27 l0 x3_2).f1), .int .i64 ((rd_T27 l0 x3_2).f2), .int .i64 ((rd_T27 l0 x3_2).f3)] 27 (0, 0))) := ⟨by (with_reducible repeat (first | refine blk_drewN ?_ _ | refine blk_drew ?_ | refine blk_alloc ?_ _)); refine blk_put (cs := #[.string ((rd_T27 l0 x3_2).f0), .int .i64 ((rd_T27 l0 x3_2).f1), .int .i64 ((rd_T27 l0 x3_2).f2), .int .i64 0]) ?_ 3 _ rfl; (with_reducible repeat (first | refine blk_drewN ?_ _ | refine blk_drew ?_ | refine blk_alloc ?_ _)); refine blk_put (cs := #[.string ((rd_T27 l0 x3_2).f0), .int .i64 ((rd_T27 l0 x3_2).f1), .int .i64 0, .int .i64 0]) ?_ 2 _ rfl; (with_reducible repeat (first | refine blk_drewN ?_ _ | refine blk_drew ?_ | refine blk_alloc ?_ _)); refine blk_put (cs := #[.string ((rd_T27 l0 x3_2).f0), .int .i64 0, .int .i64 0, .int .i64 0]) ?_ 1 _ rfl; (with_reducible repeat (first | refine blk_drewN ?_ _ | refine blk_drew ?_ | refine blk_alloc ?_ _)); refine blk_put (cs := #[.string (⟨#[]⟩ : ByteArray), .int .i64 0, .int .i64 0, .int .i64 0]) ?_ 0 _ rfl; (with_reducible repeat (first | refine blk_drewN ?_ _ | refine blk_drew ?_ | refine blk_alloc ?_ _)); exact BK175.out⟩
                 have n1_ : Aside0 (Below w.heap.size w ((((w37.setCell ⟨gb175, 0, none⟩ (.string ((rd_T27 l0 x3_2).f0))).setCell ⟨gb175, 1, none⟩ (.int .i64 ((rd_T27 l0 x3_2).f1))).setCell ⟨gb175, 2, none⟩ (.int .i64 ((rd_T27 l0 x3_2).f2))).setCell ⟨gb175, 3, none⟩ (.int .i64 ((rd_T27 l0 x3_2).f3)))) := ⟨by repeat (first | (with_reducible first | exact HB.out | apply below_alloc | apply pw_below_drewN | apply below_drew1 | refine below_set ?_ GE175.out) | exact HB.out)⟩
                 (try clear BK175)
                 (try clear HB)
                 generalize ((((w37.setCell ⟨gb175, 0, none⟩ (.string ((rd_T27 l0 x3_2).f0))).setCell ⟨gb175, 1, none⟩ (.int .i64 ((rd_T27 l0 x3_2).f1))).setCell ⟨gb175, 2, none⟩ (.int .i64 ((rd_T27 l0 x3_2).f2))).setCell ⟨gb175, 3, none⟩ (.int .i64 ((rd_T27 l0 x3_2).f3))) = w39 at n0_ n1_ ⊢
                 have BK175 := n0_
                 have HB := n1_
                 clear n0_ n1_
                 have n0_ := Aside0.mk (blk_drew BK175.out)
                 have n1_ := Aside0.mk (below_drew1 HB.out)
                 clear BK175
                 clear HB
                 have BK175 := n0_
                 have HB := n1_
                 clear n0_ n1_
                 have p179 : 0 ≤ ((ji28) : Int) := of_decide_eq_true (by first | (with_reducible assumption) | assumption)
                 have q179 : (ji28) < (l0.length : Int) := of_decide_eq_true (by first | (with_reducible assumption) | assumption)
                 obtain ⟨ad179, e179, hx179_0, hx179_1, hx179_2, hx179_3⟩ := at_T27 HR0.out (ji28) p179 q179
                 have hw179_3 := hx179_3
                 have hw179_2 := hx179_2
                 have hw179_1 := hx179_1
                 have hw179_0 := hx179_0
                 obtain rfl : ad174 = ad179 := (by injection e179)
                 replace hx179_0 := (HB.out.cell (World.block_lt_of_cell? w _ hx179_0)).trans hx179_0
                 replace hx179_1 := (HB.out.cell (World.block_lt_of_cell? w _ hx179_1)).trans hx179_1
                 replace hx179_2 := (HB.out.cell (World.block_lt_of_cell? w _ hx179_2)).trans hx179_2
                 replace hx179_3 := (HB.out.cell (World.block_lt_of_cell? w _ hx179_3)).trans hx179_3
                 replace p179 := eq_true p179
                 replace q179 := eq_true q179
                 refine start_ (n := 41) (S := fun w' => w'.cell? ⟨gb175, 0, none⟩ = some (.string ((rd_T27 l0 x3_2).f0)) ∧ w'.cell? ⟨gb175, 1, none⟩ = some (.int .i64 ((rd_T27 l0 x3_2).f1)) ∧ w'.cell? ⟨gb175, 2, none⟩ = some (.int .i64 ((rd_T27 l0 x3_2).f2)) ∧ w'.cell? ⟨gb175, 3, none⟩ = some (.int .i64 ((rd_T27 l0 x3_2).f3)) ∧ w'.cell? (ad174.add (((ji28)).toNat * 4)) = some (.string ((rd_T27 l0 (ji28)).f0)) ∧ w'.cell? ⟨(ad174.add (((ji28)).toNat * 4)).block, (ad174.add (((ji28)).toNat * 4)).off + 1, none⟩ = some (.int .i64 ((rd_T27 l0 (ji28)).f1)) ∧ w'.cell? ⟨(ad174.add (((ji28)).toNat * 4)).block, (ad174.add (((ji28)).toNat * 4)).off + 2, none⟩ = some (.int .i64 ((rd_T27 l0 (ji28)).f2)) ∧ w'.cell? ⟨(ad174.add (((ji28)).toNat * 4)).block, (ad174.add (((ji28)).toNat * 4)).off + 3, none⟩ = some (.int .i64 ((rd_T27 l0 (ji28)).f3))) (ds := []) x8tr41_0 (by kernel_rfl) rfl rfl ⟨(blk_cell BK175.out 0).trans rfl, (blk_cell BK175.out 1).trans rfl, (blk_cell BK175.out 2).trans rfl, (blk_cell BK175.out 3).trans rfl, ((HB.out.cell (World.block_lt_of_cell? w _ hw179_0)).trans hw179_0), ((HB.out.cell (World.block_lt_of_cell? w _ hw179_1)).trans hw179_1), ((HB.out.cell (World.block_lt_of_cell? w _ hw179_2)).trans hw179_2), ((HB.out.cell (World.block_lt_of_cell? w _ hw179_3)).trans hw179_3)⟩ (fun hHeld => ?_); refine with_tabW cantonref14_Right.tab7 cantonref14_Right.bits7 (fun HT_ HW_ => ?_)
                 generalize w39.drew = w40 at BK175 HB hx179_0 hx179_1 hx179_2 hx179_3 hHeld ⊢
                 refine pA_ 0 30 x8tr41_1 HT_.out ?_
                 refine take_ (i := 1) (N := some 31) (v := ?_) (a' := ?_) x8tr41_2 rfl rfl (take_ofW HT_.out HW_.out (by kernel_rfl)) (fun _ _ _ h => h) (Or.inl ⟨by rfl, ?_⟩) hHeld ?_ ?_
                 rotate_left
                 ·rintro w' ⟨s0, s1, s2, s3, s4, s5, s6, s7⟩
                  go_simp
                  with_reducible rfl
                 rotate_left
                 ·simp only [Act.put, List.setIfInBounds_toArray, List.set_cons_zero, List.set_cons_succ, i64_w, i32_w]
                  rfl
                 refine one_ (i := 2) (N := some 32) x8tr41_3 rfl rfl (one_of HT_.out (by kernel_rfl)) (by decide) (fun K hK => ?_)
                 refine goes_ Try.func11 (by kernel_rfl) rfl #[.string ((rd_T27 l0 x3_2).f0)] (by rfl) rfl rfl (by (try simp only [List.map_toArray, List.map_cons, List.map_nil]); first | done | rfl | (simp only [List.length_drop, List.length_take]; rfl)) ?_
                 with_reducible refine (cantonref01_Right.calls k2 ((rd_T27 l0 x3_2).f0) true _ A9.out).mono ?_
                 rintro e w41 ⟨rfl, hb⟩
                 refine ⟨_, rfl, ?_⟩
                 have n0_ := Aside0.mk (blk_below (g := gb175) (o := .cells #[.string ((rd_T27 l0 x3_2).f0), .int .i64 ((rd_T27 l0 x3_2).f1), .int .i64 ((rd_T27 l0 x3_2).f2), .int .i64 ((rd_T27 l0 x3_2).f3)] 27 (0, 0)) (by (with_reducible repeat (first | refine blk_drewN ?_ _ | refine blk_drew ?_ | refine blk_alloc ?_ _)); exact BK175.out) hb)
                 have n1_ := Aside0.mk (below_step (by repeat (first | (with_reducible first | exact HB.out | apply below_alloc | apply pw_below_drewN | apply below_drew1 | refine below_set ?_ GE175.out) | exact HB.out)) hb)
                 clear BK175
                 clear HB
                 have BK175 := n0_
                 have HB := n1_
                 clear n0_ n1_
                 (try clear hb)
                 (try clear hb2)
                 (try clear hk)
                 (try clear hi)
                 refine hK.out _ _ ⟨(blk_cell BK175.out 0).trans rfl, (blk_cell BK175.out 1).trans rfl, (blk_cell BK175.out 2).trans rfl, (blk_cell BK175.out 3).trans rfl, ((HB.out.cell (World.block_lt_of_cell? w _ hw179_0)).trans hw179_0), ((HB.out.cell (World.block_lt_of_cell? w _ hw179_1)).trans hw179_1), ((HB.out.cell (World.block_lt_of_cell? w _ hw179_2)).trans hw179_2), ((HB.out.cell (World.block_lt_of_cell? w _ hw179_3)).trans hw179_3)⟩ (fun hHeld => ?_)
                 clear hK K
                 refine norm_ (a' := ?_) ?_ ?_
                 rotate_left
                 ·show Act.put _ (some 32) _ = _
                  simp only [Act.put, List.setIfInBounds_toArray, List.set_cons_zero, List.set_cons_succ, i64_w, i32_w]
                  rfl
                 refine pA_ 3 33 x8tr41_4 HT_.out ?_
                 refine pA_ 4 34 x8tr41_5 HT_.out ?_
                 refine pA_ 5 35 x8tr41_6 HT_.out ?_
                 refine take_ (i := 6) (N := some 36) (v := ?_) (a' := ?_) x8tr41_7 rfl rfl (take_ofW HT_.out HW_.out (by kernel_rfl)) (fun _ _ _ h => h) (Or.inl ⟨by rfl, ?_⟩) hHeld ?_ ?_
                 rotate_left
                 ·rintro w' ⟨s0, s1, s2, s3, s4, s5, s6, s7⟩
                  go_simp
                  with_reducible rfl
                 rotate_left
                 ·simp only [Act.put, List.setIfInBounds_toArray, List.set_cons_zero, List.set_cons_succ, i64_w, i32_w]
                  rfl
                 refine one_ (i := 7) (N := some 37) x8tr41_8 rfl rfl (one_of HT_.out (by kernel_rfl)) (by decide) (fun K hK => ?_)
                 refine goes_ Try.func21 (by kernel_rfl) rfl #[.int .i64 ((rd_T27 l0 x3_2).f1)] (by rfl) rfl rfl (by (try simp only [List.map_toArray, List.map_cons, List.map_nil]); first | done | rfl | (simp only [List.length_drop, List.length_take]; rfl)) ?_
                 with_reducible refine (cantonref14_group.calls ((rd_T27 l0 x3_2).f1) true _ A11.out).mono ?_
                 rintro e w' ⟨rfl, ⟨nd, rfl⟩⟩
                 refine ⟨_, rfl, ?_⟩
                 refine hK.out _ _ ⟨(blk_cell BK175.out 0).trans rfl, (blk_cell BK175.out 1).trans rfl, (blk_cell BK175.out 2).trans rfl, (blk_cell BK175.out 3).trans rfl, ((HB.out.cell (World.block_lt_of_cell? w _ hw179_0)).trans hw179_0), ((HB.out.cell (World.block_lt_of_cell? w _ hw179_1)).trans hw179_1), ((HB.out.cell (World.block_lt_of_cell? w _ hw179_2)).trans hw179_2), ((HB.out.cell (World.block_lt_of_cell? w _ hw179_3)).trans hw179_3)⟩ (fun hHeld => ?_)
                 clear hK K
                 refine norm_ (a' := ?_) ?_ ?_
                 rotate_left
                 ·show Act.put _ (some 37) _ = _
                  simp only [Act.put, List.setIfInBounds_toArray, List.set_cons_zero, List.set_cons_succ, i64_w, i32_w]
                  rfl
                 refine pA_ 8 38 x8tr41_9 HT_.out ?_
                 refine pA_ 9 39 x8tr41_10 HT_.out ?_
                 refine pA_ 10 40 x8tr41_11 HT_.out ?_
                 refine pA_ 11 41 x8tr41_12 HT_.out ?_
                 refine take_ (i := 12) (N := some 42) (v := ?_) (a' := ?_) x8tr41_13 rfl rfl (take_ofW HT_.out HW_.out (by kernel_rfl)) (fun _ _ _ h => h) (Or.inl ⟨by rfl, ?_⟩) hHeld ?_ ?_
                 rotate_left
                 ·rintro w' ⟨s0, s1, s2, s3, s4, s5, s6, s7⟩
                  go_simp
                  with_reducible rfl
                 rotate_left
                 ·simp only [Act.put, List.setIfInBounds_toArray, List.set_cons_zero, List.set_cons_succ, i64_w, i32_w]
                  rfl
                 refine one_ (i := 13) (N := some 43) x8tr41_14 rfl rfl (one_of HT_.out (by kernel_rfl)) (by decide) (fun K hK => ?_)
                 refine goes_ Try.func21 (by kernel_rfl) rfl #[.int .i64 ((rd_T27 l0 x3_2).f3)] (by rfl) rfl rfl (by (try simp only [List.map_toArray, List.map_cons, List.map_nil]); first | done | rfl | (simp only [List.length_drop, List.length_take]; rfl)) ?_
                 with_reducible refine (cantonref14_group.calls ((rd_T27 l0 x3_2).f3) true _ A13.out).mono ?_
                 rintro e w' ⟨rfl, ⟨nd, rfl⟩⟩
                 refine ⟨_, rfl, ?_⟩
                 refine hK.out _ _ ⟨(blk_cell BK175.out 0).trans rfl, (blk_cell BK175.out 1).trans rfl, (blk_cell BK175.out 2).trans rfl, (blk_cell BK175.out 3).trans rfl, ((HB.out.cell (World.block_lt_of_cell? w _ hw179_0)).trans hw179_0), ((HB.out.cell (World.block_lt_of_cell? w _ hw179_1)).trans hw179_1), ((HB.out.cell (World.block_lt_of_cell? w _ hw179_2)).trans hw179_2), ((HB.out.cell (World.block_lt_of_cell? w _ hw179_3)).trans hw179_3)⟩ (fun hHeld => ?_)
                 clear hK K
                 refine norm_ (a' := ?_) ?_ ?_
                 rotate_left
                 ·show Act.put _ (some 43) _ = _
                  simp only [Act.put, List.setIfInBounds_toArray, List.set_cons_zero, List.set_cons_succ, i64_w, i32_w]
                  rfl
                 refine pA_ 14 44 x8tr41_15 HT_.out ?_
                 refine pA_ 15 45 x8tr41_16 HT_.out ?_
                 refine pA_ 16 46 x8tr41_17 HT_.out ?_
                 refine pA_ 17 47 x8tr41_18 HT_.out ?_
                 refine take_ (i := 18) (N := some 48) (v := ?_) (a' := ?_) x8tr41_19 rfl rfl (take_ofW HT_.out HW_.out (by kernel_rfl)) (fun _ _ _ h => h) (Or.inl ⟨by rfl, ?_⟩) hHeld ?_ ?_
                 rotate_left
                 ·rintro w' ⟨s0, s1, s2, s3, s4, s5, s6, s7⟩
                  go_simp
                  with_reducible rfl
                 rotate_left
                 ·simp only [Act.put, List.setIfInBounds_toArray, List.set_cons_zero, List.set_cons_succ, i64_w, i32_w]
                  rfl
                 refine pA_ 19 49 x8tr41_20 HT_.out ?_
                 refine pA_ 20 50 x8tr41_21 HT_.out ?_
                 refine pA_ 21 51 x8tr41_22 HT_.out ?_
                 refine pA_ 22 52 x8tr41_23 HT_.out ?_
                 refine take_ (i := 23) (N := some 53) (v := ?_) (a' := ?_) x8tr41_24 rfl rfl (take_ofW HT_.out HW_.out (by kernel_rfl)) (fun _ _ _ h => h) (Or.inl ⟨by rfl, ?_⟩) hHeld ?_ ?_
                 rotate_left
                 ·rintro w' ⟨s0, s1, s2, s3, s4, s5, s6, s7⟩
                  go_simp
                  with_reducible rfl
                 rotate_left
                 ·simp only [Act.put, List.setIfInBounds_toArray, List.set_cons_zero, List.set_cons_succ, i64_w, i32_w]
                  rfl
                 refine pA_ 24 54 x8tr41_25 HT_.out ?_
                 refine pA_ 25 55 x8tr41_26 HT_.out ?_
                 refine pA_ 26 56 x8tr41_27 HT_.out ?_
                 refine pA_ 27 57 x8tr41_28 HT_.out ?_
                 refine pA_ 28 58 x8tr41_29 HT_.out ?_
                 refine pA_ 29 59 x8tr41_30 HT_.out ?_
                 refine pA_ 30 60 x8tr41_31 HT_.out ?_
                 refine pA_ 31 61 x8tr41_32 HT_.out ?_
                 refine pA_ 32 62 x8tr41_33 HT_.out ?_
                 refine pA_ 33 63 x8tr41_34 HT_.out ?_
                 refine pA_ 34 64 x8tr41_35 HT_.out ?_
                 refine pA_ 36 66 x8tr41_m11111111111111111111111111111111111010000 HT_.out ?_
                 refine take_ (i := 35) (N := some 65) (v := ?_) (a' := ?_) x8tr41_37 rfl rfl (take_ofW HT_.out HW_.out (by kernel_rfl)) (fun _ _ _ h => h) (Or.inl ⟨by rfl, ?_⟩) hHeld ?_ ?_
                 rotate_left
                 ·rintro w' ⟨s0, s1, s2, s3, s4, s5, s6, s7⟩
                  go_simp
                  with_reducible rfl
                 rotate_left
                 ·simp only [Act.put, List.setIfInBounds_toArray, List.set_cons_zero, List.set_cons_succ, i64_w, i32_w]
                  rfl
                 refine take_ (i := 37) (N := some 67) (v := ?_) (a' := ?_) x8tr41_38 rfl rfl (take_ofW HT_.out HW_.out (by kernel_rfl)) (fun _ _ _ h => h) (Or.inl ⟨by rfl, ?_⟩) hHeld ?_ ?_
                 rotate_left
                 ·rintro w' ⟨s0, s1, s2, s3, s4, s5, s6, s7⟩
                  go_simp
                  with_reducible rfl
                 rotate_left
                 ·simp only [Act.put, List.setIfInBounds_toArray, List.set_cons_zero, List.set_cons_succ, i64_w, i32_w]
                  rfl
                 refine pA_ 38 68 x8tr41_39 HT_.out ?_
                 refine pA_ 39 69 x8tr41_40 HT_.out ?_
                 refine pA_ 40 70 x8tr41_41 HT_.out ?_
                 refine done_ (done_of HT_.out (by kernel_rfl)) ?_
                 try go_wp2
                 go_ret
                 exact ⟨by first | rfl | (simp [errW_none, errW_some] <;> rfl) | (simp only [← hji28]; first | rfl | (simp [errW_none, errW_some] <;> rfl)) | (simp [*, errW_none, errW_some] <;> rfl), by repeat (first | (with_reducible first | exact HB.out | apply below_alloc | apply pw_below_drewN | apply below_drew1 | refine below_set ?_ GE175.out) | exact HB.out)⟩
               ·rw [if_neg c30] at H
                exact absurd H (by simp)
              ·rw [if_neg c29] at H
               exact absurd H (by simp)
             ·rw [if_neg c27] at H
              have c27b0 : decide (0 < x3_2) = false := decide_eq_false c27
              clear c27
              have H' := Aside0.mk H
              clear H
              have p174 : 0 ≤ (x3_2 : Int) := of_decide_eq_true (by first | (with_reducible assumption) | assumption)
              have q174 : x3_2 < (l0.length : Int) := of_decide_eq_true (by first | (with_reducible assumption) | assumption)
              obtain ⟨ad174, e174, hx174_0, hx174_1, hx174_2, hx174_3⟩ := at_T27 HR0.out x3_2 p174 q174
              cases e174
              replace hx174_0 := (HB.out.cell (World.block_lt_of_cell? w _ hx174_0)).trans hx174_0
              replace hx174_1 := (HB.out.cell (World.block_lt_of_cell? w _ hx174_1)).trans hx174_1
              replace hx174_2 := (HB.out.cell (World.block_lt_of_cell? w _ hx174_2)).trans hx174_2
              replace hx174_3 := (HB.out.cell (World.block_lt_of_cell? w _ hx174_3)).trans hx174_3
              replace p174 := eq_true p174
              replace q174 := eq_true q174
              try go_wp2_with (first | ((with_reducible refine gate_dst (N := 4) rfl ?_); (try (refine gate_guard (by rfl) ?_; dsimp only)); refine box_event ?hg (N := 4) ?hd (cs := #[.string (⟨#[]⟩ : ByteArray), .int .i64 0, .int .i64 0, .int .i64 0]) (t := 27) ?hr ?_; (case hd => rfl); (case hg => rfl); (case hr => first | (go_simp; done) | (go_simp; rfl)); intro gb175 hg w42 hbox hb; have n0_ := Aside0.mk (below_step (by repeat (first | (with_reducible first | exact HB.out | apply below_alloc | apply pw_below_drewN | apply below_drew1) | exact HB.out)) hb); have n1_ := Aside0.mk (hbox); have n2_ := Aside0.mk ((by rw [hg]; exact (below_size (by repeat (first | (with_reducible first | exact HB.out | apply below_alloc | apply pw_below_drewN | apply below_drew1) | exact HB.out))) : w.heap.size ≤ gb175)); have n3_ := Aside0.mk ((by rw [hg]; exact (below_size (by repeat (first | (with_reducible first | exact HB.out | apply below_alloc | apply pw_below_drewN | apply below_drew1) | exact HB.out))) : w.heap.size ≤ gb175)); clear HB; have HB := n0_; have BK175 := n1_; have GW175 := n2_; have GE175 := n3_; clear n0_ n1_ n2_ n3_; clear hb hbox hg; have hcz43_0 : w42.cell? ⟨gb175, 0, none⟩ = some (.string (⟨#[]⟩ : ByteArray)) := (blk_cell BK175.out 0).trans rfl; have hcz43_1 : w42.cell? ⟨gb175, 1, none⟩ = some (.int .i64 0) := (blk_cell BK175.out 1).trans rfl; have hcz43_2 : w42.cell? ⟨gb175, 2, none⟩ = some (.int .i64 0) := (blk_cell BK175.out 2).trans rfl; have hcz43_3 : w42.cell? ⟨gb175, 3, none⟩ = some (.int .i64 0) := (blk_cell BK175.out 3).trans rfl; have hfz43_0 := blk_frozen BK175.out 0; have hfz43_1 := blk_frozen BK175.out 1; have hfz43_2 := blk_frozen BK175.out 2; have hfz43_3 := blk_frozen BK175.out 3))
              have n0_ : Aside0 (((((w42.setCell ⟨gb175, 0, none⟩ (.string ((rd_T27 l0 x3_2).f0))).setCell ⟨gb175, 1, none⟩ (.int .i64 ((rd_T27 l0 x3_2).f1))).setCell ⟨gb175, 2, none⟩ (.int .i64 ((rd_T27 l0 x3_2).f2))).setCell ⟨gb175, 3, none⟩ (.int .i64 ((rd_T27 l0 x3_2).f3))).heap[gb175]? = some (.cells #[.string ((rd_T27 l0 x3_2).f0), .int .i64 ((rd_T27 l0 x3_2).f1), .int .i64 ((rd_T27 l0 x3_2).f2), .int .i64 ((rd_T27 l0 x3_2).f3)] 27 (0, 0))) := ⟨by (with_reducible repeat (first | refine blk_drewN ?_ _ | refine blk_drew ?_ | refine blk_alloc ?_ _)); refine blk_put (cs := #[.string ((rd_T27 l0 x3_2).f0), .int .i64 ((rd_T27 l0 x3_2).f1), .int .i64 ((rd_T27 l0 x3_2).f2), .int .i64 0]) ?_ 3 _ rfl; (with_reducible repeat (first | refine blk_drewN ?_ _ | refine blk_drew ?_ | refine blk_alloc ?_ _)); refine blk_put (cs := #[.string ((rd_T27 l0 x3_2).f0), .int .i64 ((rd_T27 l0 x3_2).f1), .int .i64 0, .int .i64 0]) ?_ 2 _ rfl; (with_reducible repeat (first | refine blk_drewN ?_ _ | refine blk_drew ?_ | refine blk_alloc ?_ _)); refine blk_put (cs := #[.string ((rd_T27 l0 x3_2).f0), .int .i64 0, .int .i64 0, .int .i64 0]) ?_ 1 _ rfl; (with_reducible repeat (first | refine blk_drewN ?_ _ | refine blk_drew ?_ | refine blk_alloc ?_ _)); refine blk_put (cs := #[.string (⟨#[]⟩ : ByteArray), .int .i64 0, .int .i64 0, .int .i64 0]) ?_ 0 _ rfl; (with_reducible repeat (first | refine blk_drewN ?_ _ | refine blk_drew ?_ | refine blk_alloc ?_ _)); exact BK175.out⟩
              have n1_ : Aside0 (Below w.heap.size w ((((w42.setCell ⟨gb175, 0, none⟩ (.string ((rd_T27 l0 x3_2).f0))).setCell ⟨gb175, 1, none⟩ (.int .i64 ((rd_T27 l0 x3_2).f1))).setCell ⟨gb175, 2, none⟩ (.int .i64 ((rd_T27 l0 x3_2).f2))).setCell ⟨gb175, 3, none⟩ (.int .i64 ((rd_T27 l0 x3_2).f3)))) := ⟨by repeat (first | (with_reducible first | exact HB.out | apply below_alloc | apply pw_below_drewN | apply below_drew1 | refine below_set ?_ GE175.out) | exact HB.out)⟩
              (try clear BK175)
              (try clear HB)
              generalize ((((w42.setCell ⟨gb175, 0, none⟩ (.string ((rd_T27 l0 x3_2).f0))).setCell ⟨gb175, 1, none⟩ (.int .i64 ((rd_T27 l0 x3_2).f1))).setCell ⟨gb175, 2, none⟩ (.int .i64 ((rd_T27 l0 x3_2).f2))).setCell ⟨gb175, 3, none⟩ (.int .i64 ((rd_T27 l0 x3_2).f3))) = w44 at n0_ n1_ ⊢
              have BK175 := n0_
              have HB := n1_
              clear n0_ n1_
              have n0_ := Aside0.mk (blk_drew BK175.out)
              have n1_ := Aside0.mk (below_drew1 HB.out)
              clear BK175
              clear HB
              have BK175 := n0_
              have HB := n1_
              clear n0_ n1_
              refine start_ (n := 41) (S := fun w' => w'.cell? ⟨gb175, 0, none⟩ = some (.string ((rd_T27 l0 x3_2).f0)) ∧ w'.cell? ⟨gb175, 1, none⟩ = some (.int .i64 ((rd_T27 l0 x3_2).f1)) ∧ w'.cell? ⟨gb175, 2, none⟩ = some (.int .i64 ((rd_T27 l0 x3_2).f2)) ∧ w'.cell? ⟨gb175, 3, none⟩ = some (.int .i64 ((rd_T27 l0 x3_2).f3))) (ds := []) x8tr41_0 (by kernel_rfl) rfl rfl ⟨(blk_cell BK175.out 0).trans rfl, (blk_cell BK175.out 1).trans rfl, (blk_cell BK175.out 2).trans rfl, (blk_cell BK175.out 3).trans rfl⟩ (fun hHeld => ?_); refine with_tabW cantonref14_Right.tab7 cantonref14_Right.bits7 (fun HT_ HW_ => ?_)
              generalize w44.drew = w45 at BK175 HB hHeld ⊢
              refine pA_ 0 30 x8tr41_1 HT_.out ?_
              refine take_ (i := 1) (N := some 31) (v := ?_) (a' := ?_) x8tr41_2 rfl rfl (take_ofW HT_.out HW_.out (by kernel_rfl)) (fun _ _ _ h => h) (Or.inl ⟨by rfl, ?_⟩) hHeld ?_ ?_
              rotate_left
              ·rintro w' ⟨s0, s1, s2, s3⟩
               go_simp
               with_reducible rfl
              rotate_left
              ·simp only [Act.put, List.setIfInBounds_toArray, List.set_cons_zero, List.set_cons_succ, i64_w, i32_w]
               rfl
              refine one_ (i := 2) (N := some 32) x8tr41_3 rfl rfl (one_of HT_.out (by kernel_rfl)) (by decide) (fun K hK => ?_)
              refine goes_ Try.func11 (by kernel_rfl) rfl #[.string ((rd_T27 l0 x3_2).f0)] (by rfl) rfl rfl (by (try simp only [List.map_toArray, List.map_cons, List.map_nil]); first | done | rfl | (simp only [List.length_drop, List.length_take]; rfl)) ?_
              with_reducible refine (cantonref01_Right.calls k2 ((rd_T27 l0 x3_2).f0) true _ A9.out).mono ?_
              rintro e w46 ⟨rfl, hb⟩
              refine ⟨_, rfl, ?_⟩
              have n0_ := Aside0.mk (blk_below (g := gb175) (o := .cells #[.string ((rd_T27 l0 x3_2).f0), .int .i64 ((rd_T27 l0 x3_2).f1), .int .i64 ((rd_T27 l0 x3_2).f2), .int .i64 ((rd_T27 l0 x3_2).f3)] 27 (0, 0)) (by (with_reducible repeat (first | refine blk_drewN ?_ _ | refine blk_drew ?_ | refine blk_alloc ?_ _)); exact BK175.out) hb)
              have n1_ := Aside0.mk (below_step (by repeat (first | (with_reducible first | exact HB.out | apply below_alloc | apply pw_below_drewN | apply below_drew1 | refine below_set ?_ GE175.out) | exact HB.out)) hb)
              clear BK175
              clear HB
              have BK175 := n0_
              have HB := n1_
              clear n0_ n1_
              (try clear hb)
              (try clear hb2)
              (try clear hk)
              (try clear hi)
              refine hK.out _ _ ⟨(blk_cell BK175.out 0).trans rfl, (blk_cell BK175.out 1).trans rfl, (blk_cell BK175.out 2).trans rfl, (blk_cell BK175.out 3).trans rfl⟩ (fun hHeld => ?_)
              clear hK K
              refine norm_ (a' := ?_) ?_ ?_
              rotate_left
              ·show Act.put _ (some 32) _ = _
               simp only [Act.put, List.setIfInBounds_toArray, List.set_cons_zero, List.set_cons_succ, i64_w, i32_w]
               rfl
              refine pA_ 3 33 x8tr41_4 HT_.out ?_
              refine pA_ 4 34 x8tr41_5 HT_.out ?_
              refine pA_ 5 35 x8tr41_6 HT_.out ?_
              refine take_ (i := 6) (N := some 36) (v := ?_) (a' := ?_) x8tr41_7 rfl rfl (take_ofW HT_.out HW_.out (by kernel_rfl)) (fun _ _ _ h => h) (Or.inl ⟨by rfl, ?_⟩) hHeld ?_ ?_
              rotate_left
              ·rintro w' ⟨s0, s1, s2, s3⟩
               go_simp
               with_reducible rfl
              rotate_left
              ·simp only [Act.put, List.setIfInBounds_toArray, List.set_cons_zero, List.set_cons_succ, i64_w, i32_w]
               rfl
              refine one_ (i := 7) (N := some 37) x8tr41_8 rfl rfl (one_of HT_.out (by kernel_rfl)) (by decide) (fun K hK => ?_)
              refine goes_ Try.func21 (by kernel_rfl) rfl #[.int .i64 ((rd_T27 l0 x3_2).f1)] (by rfl) rfl rfl (by (try simp only [List.map_toArray, List.map_cons, List.map_nil]); first | done | rfl | (simp only [List.length_drop, List.length_take]; rfl)) ?_
              with_reducible refine (cantonref14_group.calls ((rd_T27 l0 x3_2).f1) true _ A11.out).mono ?_
              rintro e w' ⟨rfl, ⟨nd, rfl⟩⟩
              refine ⟨_, rfl, ?_⟩
              refine hK.out _ _ ⟨(blk_cell BK175.out 0).trans rfl, (blk_cell BK175.out 1).trans rfl, (blk_cell BK175.out 2).trans rfl, (blk_cell BK175.out 3).trans rfl⟩ (fun hHeld => ?_)
              clear hK K
              refine norm_ (a' := ?_) ?_ ?_
              rotate_left
              ·show Act.put _ (some 37) _ = _
               simp only [Act.put, List.setIfInBounds_toArray, List.set_cons_zero, List.set_cons_succ, i64_w, i32_w]
               rfl
              refine pA_ 8 38 x8tr41_9 HT_.out ?_
              refine pA_ 9 39 x8tr41_10 HT_.out ?_
              refine pA_ 10 40 x8tr41_11 HT_.out ?_
              refine pA_ 11 41 x8tr41_12 HT_.out ?_
              refine take_ (i := 12) (N := some 42) (v := ?_) (a' := ?_) x8tr41_13 rfl rfl (take_ofW HT_.out HW_.out (by kernel_rfl)) (fun _ _ _ h => h) (Or.inl ⟨by rfl, ?_⟩) hHeld ?_ ?_
              rotate_left
              ·rintro w' ⟨s0, s1, s2, s3⟩
               go_simp
               with_reducible rfl
              rotate_left
              ·simp only [Act.put, List.setIfInBounds_toArray, List.set_cons_zero, List.set_cons_succ, i64_w, i32_w]
               rfl
              refine one_ (i := 13) (N := some 43) x8tr41_14 rfl rfl (one_of HT_.out (by kernel_rfl)) (by decide) (fun K hK => ?_)
              refine goes_ Try.func21 (by kernel_rfl) rfl #[.int .i64 ((rd_T27 l0 x3_2).f3)] (by rfl) rfl rfl (by (try simp only [List.map_toArray, List.map_cons, List.map_nil]); first | done | rfl | (simp only [List.length_drop, List.length_take]; rfl)) ?_
              with_reducible refine (cantonref14_group.calls ((rd_T27 l0 x3_2).f3) true _ A13.out).mono ?_
              rintro e w' ⟨rfl, ⟨nd, rfl⟩⟩
              refine ⟨_, rfl, ?_⟩
              refine hK.out _ _ ⟨(blk_cell BK175.out 0).trans rfl, (blk_cell BK175.out 1).trans rfl, (blk_cell BK175.out 2).trans rfl, (blk_cell BK175.out 3).trans rfl⟩ (fun hHeld => ?_)
              clear hK K
              refine norm_ (a' := ?_) ?_ ?_
              rotate_left
              ·show Act.put _ (some 43) _ = _
               simp only [Act.put, List.setIfInBounds_toArray, List.set_cons_zero, List.set_cons_succ, i64_w, i32_w]
               rfl
              refine pA_ 14 44 x8tr41_15 HT_.out ?_
              refine pA_ 15 45 x8tr41_16 HT_.out ?_
              refine pA_ 16 46 x8tr41_17 HT_.out ?_
              refine pA_ 17 47 x8tr41_18 HT_.out ?_
              refine take_ (i := 18) (N := some 48) (v := ?_) (a' := ?_) x8tr41_19 rfl rfl (take_ofW HT_.out HW_.out (by kernel_rfl)) (fun _ _ _ h => h) (Or.inl ⟨by rfl, ?_⟩) hHeld ?_ ?_
              rotate_left
              ·rintro w' ⟨s0, s1, s2, s3⟩
               go_simp
               with_reducible rfl
              rotate_left
              ·simp only [Act.put, List.setIfInBounds_toArray, List.set_cons_zero, List.set_cons_succ, i64_w, i32_w]
               rfl
              refine pA_ 19 49 x8tr41_20 HT_.out ?_
              refine pA_ 20 50 x8tr41_21 HT_.out ?_
              refine pA_ 21 51 x8tr41_22 HT_.out ?_
              refine pA_ 22 52 x8tr41_23 HT_.out ?_
              refine take_ (i := 23) (N := some 53) (v := ?_) (a' := ?_) x8tr41_24 rfl rfl (take_ofW HT_.out HW_.out (by kernel_rfl)) (fun _ _ _ h => h) (Or.inl ⟨by rfl, ?_⟩) hHeld ?_ ?_
              rotate_left
              ·rintro w' ⟨s0, s1, s2, s3⟩
               go_simp
               with_reducible rfl
              rotate_left
              ·simp only [Act.put, List.setIfInBounds_toArray, List.set_cons_zero, List.set_cons_succ, i64_w, i32_w]
               rfl
              refine pA_ 24 54 x8tr41_25 HT_.out ?_
              refine pA_ 25 55 x8tr41_26 HT_.out ?_
              refine pA_ 26 56 x8tr41_27 HT_.out ?_
              refine pA_ 27 57 x8tr41_28 HT_.out ?_
              refine pA_ 28 58 x8tr41_29 HT_.out ?_
              refine pA_ 29 59 x8tr41_30 HT_.out ?_
              refine pU_ 30 60 x8tr41_31 HT_.out ?_
              refine pU_ 31 61 x8tr41_32 HT_.out ?_
              refine pU_ 32 62 x8tr41_33 HT_.out ?_
              refine pU_ 33 63 x8tr41_34 HT_.out ?_
              refine pU_ 34 64 x8tr41_35 HT_.out ?_
              refine pU_ 35 65 x8tr41_36 HT_.out ?_
              refine pU_ 36 66 x8tr41_37 HT_.out ?_
              refine pU_ 37 67 x8tr41_38 HT_.out ?_
              refine pU_ 38 68 x8tr41_39 HT_.out ?_
              refine pA_ 39 69 x8tr41_40 HT_.out ?_
              refine pA_ 40 70 x8tr41_41 HT_.out ?_
              refine done_ (done_of HT_.out (by kernel_rfl)) ?_
              try go_wp2
              go_roundg k2
              case measure => have := HJ1.out; have := HK2.out; omega
              case rel => exact ⟨(wrap64 (x3_2 + 1)), (by first | rfl | (simp; done) | (simp [*]; done)), H', ⟨by have := HJ1.out; have := HK2.out; omega⟩, ⟨by repeat (first | (with_reducible first | exact HB.out | apply below_alloc | apply pw_below_drewN | apply below_drew1 | refine below_set ?_ GE175.out) | exact HB.out)⟩⟩
          ·replace c14 := Bool.eq_false_iff.mpr c14
           subst c14
           have H1 : (some false) = some r := by rw [if_neg (show ¬ (false = true) by decide)] at H; exact H
           clear H
           have H := H1
           clear H1
           obtain rfl := Option.some.inj H
           have p174 : 0 ≤ (x3_2 : Int) := of_decide_eq_true (by first | (with_reducible assumption) | assumption)
           have q174 : x3_2 < (l0.length : Int) := of_decide_eq_true (by first | (with_reducible assumption) | assumption)
           obtain ⟨ad174, e174, hx174_0, hx174_1, hx174_2, hx174_3⟩ := at_T27 HR0.out x3_2 p174 q174
           cases e174
           replace hx174_0 := (HB.out.cell (World.block_lt_of_cell? w _ hx174_0)).trans hx174_0
           replace hx174_1 := (HB.out.cell (World.block_lt_of_cell? w _ hx174_1)).trans hx174_1
           replace hx174_2 := (HB.out.cell (World.block_lt_of_cell? w _ hx174_2)).trans hx174_2
           replace hx174_3 := (HB.out.cell (World.block_lt_of_cell? w _ hx174_3)).trans hx174_3
           replace p174 := eq_true p174
           replace q174 := eq_true q174
           try go_wp2_with (first | ((with_reducible refine gate_dst (N := 4) rfl ?_); (try (refine gate_guard (by rfl) ?_; dsimp only)); refine box_event ?hg (N := 4) ?hd (cs := #[.string (⟨#[]⟩ : ByteArray), .int .i64 0, .int .i64 0, .int .i64 0]) (t := 27) ?hr ?_; (case hd => rfl); (case hg => rfl); (case hr => first | (go_simp; done) | (go_simp; rfl)); intro gb175 hg w47 hbox hb; have n0_ := Aside0.mk (below_step (by repeat (first | (with_reducible first | exact HB.out | apply below_alloc | apply pw_below_drewN | apply below_drew1) | exact HB.out)) hb); have n1_ := Aside0.mk (hbox); have n2_ := Aside0.mk ((by rw [hg]; exact (below_size (by repeat (first | (with_reducible first | exact HB.out | apply below_alloc | apply pw_below_drewN | apply below_drew1) | exact HB.out))) : w.heap.size ≤ gb175)); have n3_ := Aside0.mk ((by rw [hg]; exact (below_size (by repeat (first | (with_reducible first | exact HB.out | apply below_alloc | apply pw_below_drewN | apply below_drew1) | exact HB.out))) : w.heap.size ≤ gb175)); clear HB; have HB := n0_; have BK175 := n1_; have GW175 := n2_; have GE175 := n3_; clear n0_ n1_ n2_ n3_; clear hb hbox hg; have hcz48_0 : w47.cell? ⟨gb175, 0, none⟩ = some (.string (⟨#[]⟩ : ByteArray)) := (blk_cell BK175.out 0).trans rfl; have hcz48_1 : w47.cell? ⟨gb175, 1, none⟩ = some (.int .i64 0) := (blk_cell BK175.out 1).trans rfl; have hcz48_2 : w47.cell? ⟨gb175, 2, none⟩ = some (.int .i64 0) := (blk_cell BK175.out 2).trans rfl; have hcz48_3 : w47.cell? ⟨gb175, 3, none⟩ = some (.int .i64 0) := (blk_cell BK175.out 3).trans rfl; have hfz48_0 := blk_frozen BK175.out 0; have hfz48_1 := blk_frozen BK175.out 1; have hfz48_2 := blk_frozen BK175.out 2; have hfz48_3 := blk_frozen BK175.out 3))
           have n0_ : Aside0 (((((w47.setCell ⟨gb175, 0, none⟩ (.string ((rd_T27 l0 x3_2).f0))).setCell ⟨gb175, 1, none⟩ (.int .i64 ((rd_T27 l0 x3_2).f1))).setCell ⟨gb175, 2, none⟩ (.int .i64 ((rd_T27 l0 x3_2).f2))).setCell ⟨gb175, 3, none⟩ (.int .i64 ((rd_T27 l0 x3_2).f3))).heap[gb175]? = some (.cells #[.string ((rd_T27 l0 x3_2).f0), .int .i64 ((rd_T27 l0 x3_2).f1), .int .i64 ((rd_T27 l0 x3_2).f2), .int .i64 ((rd_T27 l0 x3_2).f3)] 27 (0, 0))) := ⟨by (with_reducible repeat (first | refine blk_drewN ?_ _ | refine blk_drew ?_ | refine blk_alloc ?_ _)); refine blk_put (cs := #[.string ((rd_T27 l0 x3_2).f0), .int .i64 ((rd_T27 l0 x3_2).f1), .int .i64 ((rd_T27 l0 x3_2).f2), .int .i64 0]) ?_ 3 _ rfl; (with_reducible repeat (first | refine blk_drewN ?_ _ | refine blk_drew ?_ | refine blk_alloc ?_ _)); refine blk_put (cs := #[.string ((rd_T27 l0 x3_2).f0), .int .i64 ((rd_T27 l0 x3_2).f1), .int .i64 0, .int .i64 0]) ?_ 2 _ rfl; (with_reducible repeat (first | refine blk_drewN ?_ _ | refine blk_drew ?_ | refine blk_alloc ?_ _)); refine blk_put (cs := #[.string ((rd_T27 l0 x3_2).f0), .int .i64 0, .int .i64 0, .int .i64 0]) ?_ 1 _ rfl; (with_reducible repeat (first | refine blk_drewN ?_ _ | refine blk_drew ?_ | refine blk_alloc ?_ _)); refine blk_put (cs := #[.string (⟨#[]⟩ : ByteArray), .int .i64 0, .int .i64 0, .int .i64 0]) ?_ 0 _ rfl; (with_reducible repeat (first | refine blk_drewN ?_ _ | refine blk_drew ?_ | refine blk_alloc ?_ _)); exact BK175.out⟩
           have n1_ : Aside0 (Below w.heap.size w ((((w47.setCell ⟨gb175, 0, none⟩ (.string ((rd_T27 l0 x3_2).f0))).setCell ⟨gb175, 1, none⟩ (.int .i64 ((rd_T27 l0 x3_2).f1))).setCell ⟨gb175, 2, none⟩ (.int .i64 ((rd_T27 l0 x3_2).f2))).setCell ⟨gb175, 3, none⟩ (.int .i64 ((rd_T27 l0 x3_2).f3)))) := ⟨by repeat (first | (with_reducible first | exact HB.out | apply below_alloc | apply pw_below_drewN | apply below_drew1 | refine below_set ?_ GE175.out) | exact HB.out)⟩
           (try clear BK175)
           (try clear HB)
           generalize ((((w47.setCell ⟨gb175, 0, none⟩ (.string ((rd_T27 l0 x3_2).f0))).setCell ⟨gb175, 1, none⟩ (.int .i64 ((rd_T27 l0 x3_2).f1))).setCell ⟨gb175, 2, none⟩ (.int .i64 ((rd_T27 l0 x3_2).f2))).setCell ⟨gb175, 3, none⟩ (.int .i64 ((rd_T27 l0 x3_2).f3))) = w49 at n0_ n1_ ⊢
           have BK175 := n0_
           have HB := n1_
           clear n0_ n1_
           have n0_ := Aside0.mk (blk_drew BK175.out)
           have n1_ := Aside0.mk (below_drew1 HB.out)
           clear BK175
           clear HB
           have BK175 := n0_
           have HB := n1_
           clear n0_ n1_
           refine start_ (n := 41) (S := fun w' => w'.cell? ⟨gb175, 0, none⟩ = some (.string ((rd_T27 l0 x3_2).f0)) ∧ w'.cell? ⟨gb175, 1, none⟩ = some (.int .i64 ((rd_T27 l0 x3_2).f1)) ∧ w'.cell? ⟨gb175, 2, none⟩ = some (.int .i64 ((rd_T27 l0 x3_2).f2)) ∧ w'.cell? ⟨gb175, 3, none⟩ = some (.int .i64 ((rd_T27 l0 x3_2).f3))) (ds := []) x8tr41_0 (by kernel_rfl) rfl rfl ⟨(blk_cell BK175.out 0).trans rfl, (blk_cell BK175.out 1).trans rfl, (blk_cell BK175.out 2).trans rfl, (blk_cell BK175.out 3).trans rfl⟩ (fun hHeld => ?_); refine with_tabW cantonref14_Right.tab7 cantonref14_Right.bits7 (fun HT_ HW_ => ?_)
           generalize w49.drew = w50 at BK175 HB hHeld ⊢
           refine pA_ 0 30 x8tr41_1 HT_.out ?_
           refine take_ (i := 1) (N := some 31) (v := ?_) (a' := ?_) x8tr41_2 rfl rfl (take_ofW HT_.out HW_.out (by kernel_rfl)) (fun _ _ _ h => h) (Or.inl ⟨by rfl, ?_⟩) hHeld ?_ ?_
           rotate_left
           ·rintro w' ⟨s0, s1, s2, s3⟩
            go_simp
            with_reducible rfl
           rotate_left
           ·simp only [Act.put, List.setIfInBounds_toArray, List.set_cons_zero, List.set_cons_succ, i64_w, i32_w]
            rfl
           refine one_ (i := 2) (N := some 32) x8tr41_3 rfl rfl (one_of HT_.out (by kernel_rfl)) (by decide) (fun K hK => ?_)
           refine goes_ Try.func11 (by kernel_rfl) rfl #[.string ((rd_T27 l0 x3_2).f0)] (by rfl) rfl rfl (by (try simp only [List.map_toArray, List.map_cons, List.map_nil]); first | done | rfl | (simp only [List.length_drop, List.length_take]; rfl)) ?_
           with_reducible refine (cantonref01_Right.calls k2 ((rd_T27 l0 x3_2).f0) true _ A9.out).mono ?_
           rintro e w51 ⟨rfl, hb⟩
           refine ⟨_, rfl, ?_⟩
           have n0_ := Aside0.mk (blk_below (g := gb175) (o := .cells #[.string ((rd_T27 l0 x3_2).f0), .int .i64 ((rd_T27 l0 x3_2).f1), .int .i64 ((rd_T27 l0 x3_2).f2), .int .i64 ((rd_T27 l0 x3_2).f3)] 27 (0, 0)) (by (with_reducible repeat (first | refine blk_drewN ?_ _ | refine blk_drew ?_ | refine blk_alloc ?_ _)); exact BK175.out) hb)
           have n1_ := Aside0.mk (below_step (by repeat (first | (with_reducible first | exact HB.out | apply below_alloc | apply pw_below_drewN | apply below_drew1 | refine below_set ?_ GE175.out) | exact HB.out)) hb)
           clear BK175
           clear HB
           have BK175 := n0_
           have HB := n1_
           clear n0_ n1_
           (try clear hb)
           (try clear hb2)
           (try clear hk)
           (try clear hi)
           refine hK.out _ _ ⟨(blk_cell BK175.out 0).trans rfl, (blk_cell BK175.out 1).trans rfl, (blk_cell BK175.out 2).trans rfl, (blk_cell BK175.out 3).trans rfl⟩ (fun hHeld => ?_)
           clear hK K
           refine norm_ (a' := ?_) ?_ ?_
           rotate_left
           ·show Act.put _ (some 32) _ = _
            simp only [Act.put, List.setIfInBounds_toArray, List.set_cons_zero, List.set_cons_succ, i64_w, i32_w]
            rfl
           refine pA_ 3 33 x8tr41_4 HT_.out ?_
           refine pA_ 4 34 x8tr41_5 HT_.out ?_
           refine pA_ 5 35 x8tr41_6 HT_.out ?_
           refine take_ (i := 6) (N := some 36) (v := ?_) (a' := ?_) x8tr41_7 rfl rfl (take_ofW HT_.out HW_.out (by kernel_rfl)) (fun _ _ _ h => h) (Or.inl ⟨by rfl, ?_⟩) hHeld ?_ ?_
           rotate_left
           ·rintro w' ⟨s0, s1, s2, s3⟩
            go_simp
            with_reducible rfl
           rotate_left
           ·simp only [Act.put, List.setIfInBounds_toArray, List.set_cons_zero, List.set_cons_succ, i64_w, i32_w]
            rfl
           refine one_ (i := 7) (N := some 37) x8tr41_8 rfl rfl (one_of HT_.out (by kernel_rfl)) (by decide) (fun K hK => ?_)
           refine goes_ Try.func21 (by kernel_rfl) rfl #[.int .i64 ((rd_T27 l0 x3_2).f1)] (by rfl) rfl rfl (by (try simp only [List.map_toArray, List.map_cons, List.map_nil]); first | done | rfl | (simp only [List.length_drop, List.length_take]; rfl)) ?_
           with_reducible refine (cantonref14_group.calls ((rd_T27 l0 x3_2).f1) true _ A11.out).mono ?_
           rintro e w' ⟨rfl, ⟨nd, rfl⟩⟩
           refine ⟨_, rfl, ?_⟩
           refine hK.out _ _ ⟨(blk_cell BK175.out 0).trans rfl, (blk_cell BK175.out 1).trans rfl, (blk_cell BK175.out 2).trans rfl, (blk_cell BK175.out 3).trans rfl⟩ (fun hHeld => ?_)
           clear hK K
           refine norm_ (a' := ?_) ?_ ?_
           rotate_left
           ·show Act.put _ (some 37) _ = _
            simp only [Act.put, List.setIfInBounds_toArray, List.set_cons_zero, List.set_cons_succ, i64_w, i32_w]
            rfl
           refine pA_ 8 38 x8tr41_9 HT_.out ?_
           refine pA_ 9 39 x8tr41_10 HT_.out ?_
           refine pA_ 10 40 x8tr41_11 HT_.out ?_
           refine pA_ 11 41 x8tr41_12 HT_.out ?_
           refine take_ (i := 12) (N := some 42) (v := ?_) (a' := ?_) x8tr41_13 rfl rfl (take_ofW HT_.out HW_.out (by kernel_rfl)) (fun _ _ _ h => h) (Or.inl ⟨by rfl, ?_⟩) hHeld ?_ ?_
           rotate_left
           ·rintro w' ⟨s0, s1, s2, s3⟩
            go_simp
            with_reducible rfl
           rotate_left
           ·simp only [Act.put, List.setIfInBounds_toArray, List.set_cons_zero, List.set_cons_succ, i64_w, i32_w]
            rfl
           refine one_ (i := 13) (N := some 43) x8tr41_14 rfl rfl (one_of HT_.out (by kernel_rfl)) (by decide) (fun K hK => ?_)
           refine goes_ Try.func21 (by kernel_rfl) rfl #[.int .i64 ((rd_T27 l0 x3_2).f3)] (by rfl) rfl rfl (by (try simp only [List.map_toArray, List.map_cons, List.map_nil]); first | done | rfl | (simp only [List.length_drop, List.length_take]; rfl)) ?_
           with_reducible refine (cantonref14_group.calls ((rd_T27 l0 x3_2).f3) false _ A13.out).mono ?_
           rintro e w' ⟨rfl, ⟨nd, rfl⟩⟩
           refine ⟨_, rfl, ?_⟩
           refine hK.out _ _ ⟨(blk_cell BK175.out 0).trans rfl, (blk_cell BK175.out 1).trans rfl, (blk_cell BK175.out 2).trans rfl, (blk_cell BK175.out 3).trans rfl⟩ (fun hHeld => ?_)
           clear hK K
           refine norm_ (a' := ?_) ?_ ?_
           rotate_left
           ·show Act.put _ (some 43) _ = _
            simp only [Act.put, List.setIfInBounds_toArray, List.set_cons_zero, List.set_cons_succ, i64_w, i32_w]
            rfl
           refine pA_ 14 44 x8tr41_15 HT_.out ?_
           refine pA_ 15 45 x8tr41_16 HT_.out ?_
           refine pA_ 16 46 x8tr41_17 HT_.out ?_
           refine pU_ 17 47 x8tr41_18 HT_.out ?_
           refine pU_ 18 48 x8tr41_19 HT_.out ?_
           refine pU_ 19 49 x8tr41_20 HT_.out ?_
           refine pA_ 20 50 x8tr41_21 HT_.out ?_
           refine pA_ 21 51 x8tr41_22 HT_.out ?_
           refine pU_ 22 52 x8tr41_23 HT_.out ?_
           refine pU_ 23 53 x8tr41_24 HT_.out ?_
           refine pU_ 24 54 x8tr41_25 HT_.out ?_
           refine pA_ 25 55 x8tr41_26 HT_.out ?_
           refine pA_ 26 56 x8tr41_27 HT_.out ?_
           refine pU_ 27 57 x8tr41_28 HT_.out ?_
           refine pU_ 28 58 x8tr41_29 HT_.out ?_
           refine pU_ 29 59 x8tr41_30 HT_.out ?_
           refine pU_ 30 60 x8tr41_31 HT_.out ?_
           refine pU_ 31 61 x8tr41_32 HT_.out ?_
           refine pU_ 32 62 x8tr41_33 HT_.out ?_
           refine pU_ 33 63 x8tr41_34 HT_.out ?_
           refine pU_ 34 64 x8tr41_35 HT_.out ?_
           refine pU_ 35 65 x8tr41_36 HT_.out ?_
           refine pU_ 36 66 x8tr41_37 HT_.out ?_
           refine pU_ 37 67 x8tr41_38 HT_.out ?_
           refine pU_ 38 68 x8tr41_39 HT_.out ?_
           refine pU_ 39 69 x8tr41_40 HT_.out ?_
           refine pA_ 40 70 x8tr41_41 HT_.out ?_
           refine done_ (done_of HT_.out (by kernel_rfl)) ?_
           try go_wp2
           go_ret
           exact ⟨by first | rfl | (simp [errW_none, errW_some] <;> rfl) | (simp [*, errW_none, errW_some] <;> rfl), by repeat (first | (with_reducible first | exact HB.out | apply below_alloc | apply pw_below_drewN | apply below_drew1 | refine below_set ?_ GE175.out) | exact HB.out)⟩
         ·replace c12 := Bool.eq_false_iff.mpr c12
          subst c12
          have H1 : (some false) = some r := by rw [if_neg (show ¬ (false = true) by decide)] at H; exact H
          clear H
          have H := H1
          clear H1
          obtain rfl := Option.some.inj H
          have p174 : 0 ≤ (x3_2 : Int) := of_decide_eq_true (by first | (with_reducible assumption) | assumption)
          have q174 : x3_2 < (l0.length : Int) := of_decide_eq_true (by first | (with_reducible assumption) | assumption)
          obtain ⟨ad174, e174, hx174_0, hx174_1, hx174_2, hx174_3⟩ := at_T27 HR0.out x3_2 p174 q174
          cases e174
          replace hx174_0 := (HB.out.cell (World.block_lt_of_cell? w _ hx174_0)).trans hx174_0
          replace hx174_1 := (HB.out.cell (World.block_lt_of_cell? w _ hx174_1)).trans hx174_1
          replace hx174_2 := (HB.out.cell (World.block_lt_of_cell? w _ hx174_2)).trans hx174_2
          replace hx174_3 := (HB.out.cell (World.block_lt_of_cell? w _ hx174_3)).trans hx174_3
          replace p174 := eq_true p174
          replace q174 := eq_true q174
          try go_wp2_with (first | ((with_reducible refine gate_dst (N := 4) rfl ?_); (try (refine gate_guard (by rfl) ?_; dsimp only)); refine box_event ?hg (N := 4) ?hd (cs := #[.string (⟨#[]⟩ : ByteArray), .int .i64 0, .int .i64 0, .int .i64 0]) (t := 27) ?hr ?_; (case hd => rfl); (case hg => rfl); (case hr => first | (go_simp; done) | (go_simp; rfl)); intro gb175 hg w52 hbox hb; have n0_ := Aside0.mk (below_step (by repeat (first | (with_reducible first | exact HB.out | apply below_alloc | apply pw_below_drewN | apply below_drew1) | exact HB.out)) hb); have n1_ := Aside0.mk (hbox); have n2_ := Aside0.mk ((by rw [hg]; exact (below_size (by repeat (first | (with_reducible first | exact HB.out | apply below_alloc | apply pw_below_drewN | apply below_drew1) | exact HB.out))) : w.heap.size ≤ gb175)); have n3_ := Aside0.mk ((by rw [hg]; exact (below_size (by repeat (first | (with_reducible first | exact HB.out | apply below_alloc | apply pw_below_drewN | apply below_drew1) | exact HB.out))) : w.heap.size ≤ gb175)); clear HB; have HB := n0_; have BK175 := n1_; have GW175 := n2_; have GE175 := n3_; clear n0_ n1_ n2_ n3_; clear hb hbox hg; have hcz53_0 : w52.cell? ⟨gb175, 0, none⟩ = some (.string (⟨#[]⟩ : ByteArray)) := (blk_cell BK175.out 0).trans rfl; have hcz53_1 : w52.cell? ⟨gb175, 1, none⟩ = some (.int .i64 0) := (blk_cell BK175.out 1).trans rfl; have hcz53_2 : w52.cell? ⟨gb175, 2, none⟩ = some (.int .i64 0) := (blk_cell BK175.out 2).trans rfl; have hcz53_3 : w52.cell? ⟨gb175, 3, none⟩ = some (.int .i64 0) := (blk_cell BK175.out 3).trans rfl; have hfz53_0 := blk_frozen BK175.out 0; have hfz53_1 := blk_frozen BK175.out 1; have hfz53_2 := blk_frozen BK175.out 2; have hfz53_3 := blk_frozen BK175.out 3))
          have n0_ : Aside0 (((((w52.setCell ⟨gb175, 0, none⟩ (.string ((rd_T27 l0 x3_2).f0))).setCell ⟨gb175, 1, none⟩ (.int .i64 ((rd_T27 l0 x3_2).f1))).setCell ⟨gb175, 2, none⟩ (.int .i64 ((rd_T27 l0 x3_2).f2))).setCell ⟨gb175, 3, none⟩ (.int .i64 ((rd_T27 l0 x3_2).f3))).heap[gb175]? = some (.cells #[.string ((rd_T27 l0 x3_2).f0), .int .i64 ((rd_T27 l0 x3_2).f1), .int .i64 ((rd_T27 l0 x3_2).f2), .int .i64 ((rd_T27 l0 x3_2).f3)] 27 (0, 0))) := ⟨by (with_reducible repeat (first | refine blk_drewN ?_ _ | refine blk_drew ?_ | refine blk_alloc ?_ _)); refine blk_put (cs := #[.string ((rd_T27 l0 x3_2).f0), .int .i64 ((rd_T27 l0 x3_2).f1), .int .i64 ((rd_T27 l0 x3_2).f2), .int .i64 0]) ?_ 3 _ rfl; (with_reducible repeat (first | refine blk_drewN ?_ _ | refine blk_drew ?_ | refine blk_alloc ?_ _)); refine blk_put (cs := #[.string ((rd_T27 l0 x3_2).f0), .int .i64 ((rd_T27 l0 x3_2).f1), .int .i64 0, .int .i64 0]) ?_ 2 _ rfl; (with_reducible repeat (first | refine blk_drewN ?_ _ | refine blk_drew ?_ | refine blk_alloc ?_ _)); refine blk_put (cs := #[.string ((rd_T27 l0 x3_2).f0), .int .i64 0, .int .i64 0, .int .i64 0]) ?_ 1 _ rfl; (with_reducible repeat (first | refine blk_drewN ?_ _ | refine blk_drew ?_ | refine blk_alloc ?_ _)); refine blk_put (cs := #[.string (⟨#[]⟩ : ByteArray), .int .i64 0, .int .i64 0, .int .i64 0]) ?_ 0 _ rfl; (with_reducible repeat (first | refine blk_drewN ?_ _ | refine blk_drew ?_ | refine blk_alloc ?_ _)); exact BK175.out⟩
          have n1_ : Aside0 (Below w.heap.size w ((((w52.setCell ⟨gb175, 0, none⟩ (.string ((rd_T27 l0 x3_2).f0))).setCell ⟨gb175, 1, none⟩ (.int .i64 ((rd_T27 l0 x3_2).f1))).setCell ⟨gb175, 2, none⟩ (.int .i64 ((rd_T27 l0 x3_2).f2))).setCell ⟨gb175, 3, none⟩ (.int .i64 ((rd_T27 l0 x3_2).f3)))) := ⟨by repeat (first | (with_reducible first | exact HB.out | apply below_alloc | apply pw_below_drewN | apply below_drew1 | refine below_set ?_ GE175.out) | exact HB.out)⟩
          (try clear BK175)
          (try clear HB)
          generalize ((((w52.setCell ⟨gb175, 0, none⟩ (.string ((rd_T27 l0 x3_2).f0))).setCell ⟨gb175, 1, none⟩ (.int .i64 ((rd_T27 l0 x3_2).f1))).setCell ⟨gb175, 2, none⟩ (.int .i64 ((rd_T27 l0 x3_2).f2))).setCell ⟨gb175, 3, none⟩ (.int .i64 ((rd_T27 l0 x3_2).f3))) = w54 at n0_ n1_ ⊢
          have BK175 := n0_
          have HB := n1_
          clear n0_ n1_
          have n0_ := Aside0.mk (blk_drew BK175.out)
          have n1_ := Aside0.mk (below_drew1 HB.out)
          clear BK175
          clear HB
          have BK175 := n0_
          have HB := n1_
          clear n0_ n1_
          refine start_ (n := 41) (S := fun w' => w'.cell? ⟨gb175, 0, none⟩ = some (.string ((rd_T27 l0 x3_2).f0)) ∧ w'.cell? ⟨gb175, 1, none⟩ = some (.int .i64 ((rd_T27 l0 x3_2).f1)) ∧ w'.cell? ⟨gb175, 2, none⟩ = some (.int .i64 ((rd_T27 l0 x3_2).f2)) ∧ w'.cell? ⟨gb175, 3, none⟩ = some (.int .i64 ((rd_T27 l0 x3_2).f3))) (ds := []) x8tr41_0 (by kernel_rfl) rfl rfl ⟨(blk_cell BK175.out 0).trans rfl, (blk_cell BK175.out 1).trans rfl, (blk_cell BK175.out 2).trans rfl, (blk_cell BK175.out 3).trans rfl⟩ (fun hHeld => ?_); refine with_tabW cantonref14_Right.tab7 cantonref14_Right.bits7 (fun HT_ HW_ => ?_)
          generalize w54.drew = w55 at BK175 HB hHeld ⊢
          refine pA_ 0 30 x8tr41_1 HT_.out ?_
          refine take_ (i := 1) (N := some 31) (v := ?_) (a' := ?_) x8tr41_2 rfl rfl (take_ofW HT_.out HW_.out (by kernel_rfl)) (fun _ _ _ h => h) (Or.inl ⟨by rfl, ?_⟩) hHeld ?_ ?_
          rotate_left
          ·rintro w' ⟨s0, s1, s2, s3⟩
           go_simp
           with_reducible rfl
          rotate_left
          ·simp only [Act.put, List.setIfInBounds_toArray, List.set_cons_zero, List.set_cons_succ, i64_w, i32_w]
           rfl
          refine one_ (i := 2) (N := some 32) x8tr41_3 rfl rfl (one_of HT_.out (by kernel_rfl)) (by decide) (fun K hK => ?_)
          refine goes_ Try.func11 (by kernel_rfl) rfl #[.string ((rd_T27 l0 x3_2).f0)] (by rfl) rfl rfl (by (try simp only [List.map_toArray, List.map_cons, List.map_nil]); first | done | rfl | (simp only [List.length_drop, List.length_take]; rfl)) ?_
          with_reducible refine (cantonref01_Right.calls k2 ((rd_T27 l0 x3_2).f0) true _ A9.out).mono ?_
          rintro e w56 ⟨rfl, hb⟩
          refine ⟨_, rfl, ?_⟩
          have n0_ := Aside0.mk (blk_below (g := gb175) (o := .cells #[.string ((rd_T27 l0 x3_2).f0), .int .i64 ((rd_T27 l0 x3_2).f1), .int .i64 ((rd_T27 l0 x3_2).f2), .int .i64 ((rd_T27 l0 x3_2).f3)] 27 (0, 0)) (by (with_reducible repeat (first | refine blk_drewN ?_ _ | refine blk_drew ?_ | refine blk_alloc ?_ _)); exact BK175.out) hb)
          have n1_ := Aside0.mk (below_step (by repeat (first | (with_reducible first | exact HB.out | apply below_alloc | apply pw_below_drewN | apply below_drew1 | refine below_set ?_ GE175.out) | exact HB.out)) hb)
          clear BK175
          clear HB
          have BK175 := n0_
          have HB := n1_
          clear n0_ n1_
          (try clear hb)
          (try clear hb2)
          (try clear hk)
          (try clear hi)
          refine hK.out _ _ ⟨(blk_cell BK175.out 0).trans rfl, (blk_cell BK175.out 1).trans rfl, (blk_cell BK175.out 2).trans rfl, (blk_cell BK175.out 3).trans rfl⟩ (fun hHeld => ?_)
          clear hK K
          refine norm_ (a' := ?_) ?_ ?_
          rotate_left
          ·show Act.put _ (some 32) _ = _
           simp only [Act.put, List.setIfInBounds_toArray, List.set_cons_zero, List.set_cons_succ, i64_w, i32_w]
           rfl
          refine pA_ 3 33 x8tr41_4 HT_.out ?_
          refine pA_ 4 34 x8tr41_5 HT_.out ?_
          refine pA_ 5 35 x8tr41_6 HT_.out ?_
          refine take_ (i := 6) (N := some 36) (v := ?_) (a' := ?_) x8tr41_7 rfl rfl (take_ofW HT_.out HW_.out (by kernel_rfl)) (fun _ _ _ h => h) (Or.inl ⟨by rfl, ?_⟩) hHeld ?_ ?_
          rotate_left
          ·rintro w' ⟨s0, s1, s2, s3⟩
           go_simp
           with_reducible rfl
          rotate_left
          ·simp only [Act.put, List.setIfInBounds_toArray, List.set_cons_zero, List.set_cons_succ, i64_w, i32_w]
           rfl
          refine one_ (i := 7) (N := some 37) x8tr41_8 rfl rfl (one_of HT_.out (by kernel_rfl)) (by decide) (fun K hK => ?_)
          refine goes_ Try.func21 (by kernel_rfl) rfl #[.int .i64 ((rd_T27 l0 x3_2).f1)] (by rfl) rfl rfl (by (try simp only [List.map_toArray, List.map_cons, List.map_nil]); first | done | rfl | (simp only [List.length_drop, List.length_take]; rfl)) ?_
          with_reducible refine (cantonref14_group.calls ((rd_T27 l0 x3_2).f1) false _ A11.out).mono ?_
          rintro e w' ⟨rfl, ⟨nd, rfl⟩⟩
          refine ⟨_, rfl, ?_⟩
          refine hK.out _ _ ⟨(blk_cell BK175.out 0).trans rfl, (blk_cell BK175.out 1).trans rfl, (blk_cell BK175.out 2).trans rfl, (blk_cell BK175.out 3).trans rfl⟩ (fun hHeld => ?_)
          clear hK K
          refine norm_ (a' := ?_) ?_ ?_
          rotate_left
          ·show Act.put _ (some 37) _ = _
           simp only [Act.put, List.setIfInBounds_toArray, List.set_cons_zero, List.set_cons_succ, i64_w, i32_w]
           rfl
          refine pA_ 8 38 x8tr41_9 HT_.out ?_
          refine pA_ 9 39 x8tr41_10 HT_.out ?_
          refine pA_ 10 40 x8tr41_11 HT_.out ?_
          refine pU_ 11 41 x8tr41_12 HT_.out ?_
          refine pU_ 12 42 x8tr41_13 HT_.out ?_
          refine pU_ 13 43 x8tr41_14 HT_.out ?_
          refine pU_ 14 44 x8tr41_15 HT_.out ?_
          refine pA_ 15 45 x8tr41_16 HT_.out ?_
          refine pA_ 16 46 x8tr41_17 HT_.out ?_
          refine pU_ 17 47 x8tr41_18 HT_.out ?_
          refine pU_ 18 48 x8tr41_19 HT_.out ?_
          refine pU_ 19 49 x8tr41_20 HT_.out ?_
          refine pA_ 20 50 x8tr41_21 HT_.out ?_
          refine pA_ 21 51 x8tr41_22 HT_.out ?_
          refine pU_ 22 52 x8tr41_23 HT_.out ?_
          refine pU_ 23 53 x8tr41_24 HT_.out ?_
          refine pU_ 24 54 x8tr41_25 HT_.out ?_
          refine pA_ 25 55 x8tr41_26 HT_.out ?_
          refine pA_ 26 56 x8tr41_27 HT_.out ?_
          refine pU_ 27 57 x8tr41_28 HT_.out ?_
          refine pU_ 28 58 x8tr41_29 HT_.out ?_
          refine pU_ 29 59 x8tr41_30 HT_.out ?_
          refine pU_ 30 60 x8tr41_31 HT_.out ?_
          refine pU_ 31 61 x8tr41_32 HT_.out ?_
          refine pU_ 32 62 x8tr41_33 HT_.out ?_
          refine pU_ 33 63 x8tr41_34 HT_.out ?_
          refine pU_ 34 64 x8tr41_35 HT_.out ?_
          refine pU_ 35 65 x8tr41_36 HT_.out ?_
          refine pU_ 36 66 x8tr41_37 HT_.out ?_
          refine pU_ 37 67 x8tr41_38 HT_.out ?_
          refine pU_ 38 68 x8tr41_39 HT_.out ?_
          refine pU_ 39 69 x8tr41_40 HT_.out ?_
          refine pA_ 40 70 x8tr41_41 HT_.out ?_
          refine done_ (done_of HT_.out (by kernel_rfl)) ?_
          try go_wp2
          go_ret
          exact ⟨by first | rfl | (simp [errW_none, errW_some] <;> rfl) | (simp [*, errW_none, errW_some] <;> rfl), by repeat (first | (with_reducible first | exact HB.out | apply below_alloc | apply pw_below_drewN | apply below_drew1 | refine below_set ?_ GE175.out) | exact HB.out)⟩
        ·replace c10 := Bool.eq_false_iff.mpr c10
         subst c10
         have H1 : (some false) = some r := by rw [if_neg (show ¬ (false = true) by decide)] at H; exact H
         clear H
         have H := H1
         clear H1
         obtain rfl := Option.some.inj H
         have p174 : 0 ≤ (x3_2 : Int) := of_decide_eq_true (by first | (with_reducible assumption) | assumption)
         have q174 : x3_2 < (l0.length : Int) := of_decide_eq_true (by first | (with_reducible assumption) | assumption)
         obtain ⟨ad174, e174, hx174_0, hx174_1, hx174_2, hx174_3⟩ := at_T27 HR0.out x3_2 p174 q174
         cases e174
         replace hx174_0 := (HB.out.cell (World.block_lt_of_cell? w _ hx174_0)).trans hx174_0
         replace hx174_1 := (HB.out.cell (World.block_lt_of_cell? w _ hx174_1)).trans hx174_1
         replace hx174_2 := (HB.out.cell (World.block_lt_of_cell? w _ hx174_2)).trans hx174_2
         replace hx174_3 := (HB.out.cell (World.block_lt_of_cell? w _ hx174_3)).trans hx174_3
         replace p174 := eq_true p174
         replace q174 := eq_true q174
         try go_wp2_with (first | ((with_reducible refine gate_dst (N := 4) rfl ?_); (try (refine gate_guard (by rfl) ?_; dsimp only)); refine box_event ?hg (N := 4) ?hd (cs := #[.string (⟨#[]⟩ : ByteArray), .int .i64 0, .int .i64 0, .int .i64 0]) (t := 27) ?hr ?_; (case hd => rfl); (case hg => rfl); (case hr => first | (go_simp; done) | (go_simp; rfl)); intro gb175 hg w57 hbox hb; have n0_ := Aside0.mk (below_step (by repeat (first | (with_reducible first | exact HB.out | apply below_alloc | apply pw_below_drewN | apply below_drew1) | exact HB.out)) hb); have n1_ := Aside0.mk (hbox); have n2_ := Aside0.mk ((by rw [hg]; exact (below_size (by repeat (first | (with_reducible first | exact HB.out | apply below_alloc | apply pw_below_drewN | apply below_drew1) | exact HB.out))) : w.heap.size ≤ gb175)); have n3_ := Aside0.mk ((by rw [hg]; exact (below_size (by repeat (first | (with_reducible first | exact HB.out | apply below_alloc | apply pw_below_drewN | apply below_drew1) | exact HB.out))) : w.heap.size ≤ gb175)); clear HB; have HB := n0_; have BK175 := n1_; have GW175 := n2_; have GE175 := n3_; clear n0_ n1_ n2_ n3_; clear hb hbox hg; have hcz58_0 : w57.cell? ⟨gb175, 0, none⟩ = some (.string (⟨#[]⟩ : ByteArray)) := (blk_cell BK175.out 0).trans rfl; have hcz58_1 : w57.cell? ⟨gb175, 1, none⟩ = some (.int .i64 0) := (blk_cell BK175.out 1).trans rfl; have hcz58_2 : w57.cell? ⟨gb175, 2, none⟩ = some (.int .i64 0) := (blk_cell BK175.out 2).trans rfl; have hcz58_3 : w57.cell? ⟨gb175, 3, none⟩ = some (.int .i64 0) := (blk_cell BK175.out 3).trans rfl; have hfz58_0 := blk_frozen BK175.out 0; have hfz58_1 := blk_frozen BK175.out 1; have hfz58_2 := blk_frozen BK175.out 2; have hfz58_3 := blk_frozen BK175.out 3))
         have n0_ : Aside0 (((((w57.setCell ⟨gb175, 0, none⟩ (.string ((rd_T27 l0 x3_2).f0))).setCell ⟨gb175, 1, none⟩ (.int .i64 ((rd_T27 l0 x3_2).f1))).setCell ⟨gb175, 2, none⟩ (.int .i64 ((rd_T27 l0 x3_2).f2))).setCell ⟨gb175, 3, none⟩ (.int .i64 ((rd_T27 l0 x3_2).f3))).heap[gb175]? = some (.cells #[.string ((rd_T27 l0 x3_2).f0), .int .i64 ((rd_T27 l0 x3_2).f1), .int .i64 ((rd_T27 l0 x3_2).f2), .int .i64 ((rd_T27 l0 x3_2).f3)] 27 (0, 0))) := ⟨by (with_reducible repeat (first | refine blk_drewN ?_ _ | refine blk_drew ?_ | refine blk_alloc ?_ _)); refine blk_put (cs := #[.string ((rd_T27 l0 x3_2).f0), .int .i64 ((rd_T27 l0 x3_2).f1), .int .i64 ((rd_T27 l0 x3_2).f2), .int .i64 0]) ?_ 3 _ rfl; (with_reducible repeat (first | refine blk_drewN ?_ _ | refine blk_drew ?_ | refine blk_alloc ?_ _)); refine blk_put (cs := #[.string ((rd_T27 l0 x3_2).f0), .int .i64 ((rd_T27 l0 x3_2).f1), .int .i64 0, .int .i64 0]) ?_ 2 _ rfl; (with_reducible repeat (first | refine blk_drewN ?_ _ | refine blk_drew ?_ | refine blk_alloc ?_ _)); refine blk_put (cs := #[.string ((rd_T27 l0 x3_2).f0), .int .i64 0, .int .i64 0, .int .i64 0]) ?_ 1 _ rfl; (with_reducible repeat (first | refine blk_drewN ?_ _ | refine blk_drew ?_ | refine blk_alloc ?_ _)); refine blk_put (cs := #[.string (⟨#[]⟩ : ByteArray), .int .i64 0, .int .i64 0, .int .i64 0]) ?_ 0 _ rfl; (with_reducible repeat (first | refine blk_drewN ?_ _ | refine blk_drew ?_ | refine blk_alloc ?_ _)); exact BK175.out⟩
         have n1_ : Aside0 (Below w.heap.size w ((((w57.setCell ⟨gb175, 0, none⟩ (.string ((rd_T27 l0 x3_2).f0))).setCell ⟨gb175, 1, none⟩ (.int .i64 ((rd_T27 l0 x3_2).f1))).setCell ⟨gb175, 2, none⟩ (.int .i64 ((rd_T27 l0 x3_2).f2))).setCell ⟨gb175, 3, none⟩ (.int .i64 ((rd_T27 l0 x3_2).f3)))) := ⟨by repeat (first | (with_reducible first | exact HB.out | apply below_alloc | apply pw_below_drewN | apply below_drew1 | refine below_set ?_ GE175.out) | exact HB.out)⟩
         (try clear BK175)
         (try clear HB)
         generalize ((((w57.setCell ⟨gb175, 0, none⟩ (.string ((rd_T27 l0 x3_2).f0))).setCell ⟨gb175, 1, none⟩ (.int .i64 ((rd_T27 l0 x3_2).f1))).setCell ⟨gb175, 2, none⟩ (.int .i64 ((rd_T27 l0 x3_2).f2))).setCell ⟨gb175, 3, none⟩ (.int .i64 ((rd_T27 l0 x3_2).f3))) = w59 at n0_ n1_ ⊢
         have BK175 := n0_
         have HB := n1_
         clear n0_ n1_
         have n0_ := Aside0.mk (blk_drew BK175.out)
         have n1_ := Aside0.mk (below_drew1 HB.out)
         clear BK175
         clear HB
         have BK175 := n0_
         have HB := n1_
         clear n0_ n1_
         refine start_ (n := 41) (S := fun w' => w'.cell? ⟨gb175, 0, none⟩ = some (.string ((rd_T27 l0 x3_2).f0)) ∧ w'.cell? ⟨gb175, 1, none⟩ = some (.int .i64 ((rd_T27 l0 x3_2).f1)) ∧ w'.cell? ⟨gb175, 2, none⟩ = some (.int .i64 ((rd_T27 l0 x3_2).f2)) ∧ w'.cell? ⟨gb175, 3, none⟩ = some (.int .i64 ((rd_T27 l0 x3_2).f3))) (ds := []) x8tr41_0 (by kernel_rfl) rfl rfl ⟨(blk_cell BK175.out 0).trans rfl, (blk_cell BK175.out 1).trans rfl, (blk_cell BK175.out 2).trans rfl, (blk_cell BK175.out 3).trans rfl⟩ (fun hHeld => ?_); refine with_tabW cantonref14_Right.tab7 cantonref14_Right.bits7 (fun HT_ HW_ => ?_)
         generalize w59.drew = w60 at BK175 HB hHeld ⊢
         refine pA_ 0 30 x8tr41_1 HT_.out ?_
         refine take_ (i := 1) (N := some 31) (v := ?_) (a' := ?_) x8tr41_2 rfl rfl (take_ofW HT_.out HW_.out (by kernel_rfl)) (fun _ _ _ h => h) (Or.inl ⟨by rfl, ?_⟩) hHeld ?_ ?_
         rotate_left
         ·rintro w' ⟨s0, s1, s2, s3⟩
          go_simp
          with_reducible rfl
         rotate_left
         ·simp only [Act.put, List.setIfInBounds_toArray, List.set_cons_zero, List.set_cons_succ, i64_w, i32_w]
          rfl
         refine one_ (i := 2) (N := some 32) x8tr41_3 rfl rfl (one_of HT_.out (by kernel_rfl)) (by decide) (fun K hK => ?_)
         refine goes_ Try.func11 (by kernel_rfl) rfl #[.string ((rd_T27 l0 x3_2).f0)] (by rfl) rfl rfl (by (try simp only [List.map_toArray, List.map_cons, List.map_nil]); first | done | rfl | (simp only [List.length_drop, List.length_take]; rfl)) ?_
         with_reducible refine (cantonref01_Right.calls k2 ((rd_T27 l0 x3_2).f0) false _ A9.out).mono ?_
         rintro e w61 ⟨rfl, hb⟩
         refine ⟨_, rfl, ?_⟩
         have n0_ := Aside0.mk (blk_below (g := gb175) (o := .cells #[.string ((rd_T27 l0 x3_2).f0), .int .i64 ((rd_T27 l0 x3_2).f1), .int .i64 ((rd_T27 l0 x3_2).f2), .int .i64 ((rd_T27 l0 x3_2).f3)] 27 (0, 0)) (by (with_reducible repeat (first | refine blk_drewN ?_ _ | refine blk_drew ?_ | refine blk_alloc ?_ _)); exact BK175.out) hb)
         have n1_ := Aside0.mk (below_step (by repeat (first | (with_reducible first | exact HB.out | apply below_alloc | apply pw_below_drewN | apply below_drew1 | refine below_set ?_ GE175.out) | exact HB.out)) hb)
         clear BK175
         clear HB
         have BK175 := n0_
         have HB := n1_
         clear n0_ n1_
         (try clear hb)
         (try clear hb2)
         (try clear hk)
         (try clear hi)
         refine hK.out _ _ ⟨(blk_cell BK175.out 0).trans rfl, (blk_cell BK175.out 1).trans rfl, (blk_cell BK175.out 2).trans rfl, (blk_cell BK175.out 3).trans rfl⟩ (fun hHeld => ?_)
         clear hK K
         refine norm_ (a' := ?_) ?_ ?_
         rotate_left
         ·show Act.put _ (some 32) _ = _
          simp only [Act.put, List.setIfInBounds_toArray, List.set_cons_zero, List.set_cons_succ, i64_w, i32_w]
          rfl
         refine pA_ 3 33 x8tr41_4 HT_.out ?_
         refine pA_ 4 34 x8tr41_5 HT_.out ?_
         refine pU_ 5 35 x8tr41_6 HT_.out ?_
         refine pU_ 6 36 x8tr41_7 HT_.out ?_
         refine pU_ 7 37 x8tr41_8 HT_.out ?_
         refine pU_ 8 38 x8tr41_9 HT_.out ?_
         refine pA_ 9 39 x8tr41_10 HT_.out ?_
         refine pA_ 10 40 x8tr41_11 HT_.out ?_
         refine pU_ 11 41 x8tr41_12 HT_.out ?_
         refine pU_ 12 42 x8tr41_13 HT_.out ?_
         refine pU_ 13 43 x8tr41_14 HT_.out ?_
         refine pU_ 14 44 x8tr41_15 HT_.out ?_
         refine pA_ 15 45 x8tr41_16 HT_.out ?_
         refine pA_ 16 46 x8tr41_17 HT_.out ?_
         refine pU_ 17 47 x8tr41_18 HT_.out ?_
         refine pU_ 18 48 x8tr41_19 HT_.out ?_
         refine pU_ 19 49 x8tr41_20 HT_.out ?_
         refine pA_ 20 50 x8tr41_21 HT_.out ?_
         refine pA_ 21 51 x8tr41_22 HT_.out ?_
         refine pU_ 22 52 x8tr41_23 HT_.out ?_
         refine pU_ 23 53 x8tr41_24 HT_.out ?_
         refine pU_ 24 54 x8tr41_25 HT_.out ?_
         refine pA_ 25 55 x8tr41_26 HT_.out ?_
         refine pA_ 26 56 x8tr41_27 HT_.out ?_
         refine pU_ 27 57 x8tr41_28 HT_.out ?_
         refine pU_ 28 58 x8tr41_29 HT_.out ?_
         refine pU_ 29 59 x8tr41_30 HT_.out ?_
         refine pU_ 30 60 x8tr41_31 HT_.out ?_
         refine pU_ 31 61 x8tr41_32 HT_.out ?_
         refine pU_ 32 62 x8tr41_33 HT_.out ?_
         refine pU_ 33 63 x8tr41_34 HT_.out ?_
         refine pU_ 34 64 x8tr41_35 HT_.out ?_
         refine pU_ 35 65 x8tr41_36 HT_.out ?_
         refine pU_ 36 66 x8tr41_37 HT_.out ?_
         refine pU_ 37 67 x8tr41_38 HT_.out ?_
         refine pU_ 38 68 x8tr41_39 HT_.out ?_
         refine pU_ 39 69 x8tr41_40 HT_.out ?_
         refine pA_ 40 70 x8tr41_41 HT_.out ?_
         refine done_ (done_of HT_.out (by kernel_rfl)) ?_
         try go_wp2
         go_ret
         exact ⟨by first | rfl | (simp [errW_none, errW_some] <;> rfl) | (simp [*, errW_none, errW_some] <;> rfl), by repeat (first | (with_reducible first | exact HB.out | apply below_alloc | apply pw_below_drewN | apply below_drew1 | refine below_set ?_ GE175.out) | exact HB.out)⟩
       ·rw [if_neg c8] at H
        exact absurd H (by simp)
      ·rw [if_neg c7] at H
       have c7b0 : decide (x3_2 < (l0.length : Int)) = false := decide_eq_false c7
       clear c7
       obtain rfl := Option.some.inj H
       go_wp2
       go_ret
       exact ⟨by first | rfl | (simp [errW_none, errW_some] <;> rfl) | (simp [*, errW_none, errW_some] <;> rfl), by repeat (first | (with_reducible first | exact HB.out | apply below_alloc | apply pw_below_drewN | apply below_drew1) | exact HB.out)⟩

end Go.Proofs.Ytpkaedpgpncgpaa.Q
