-- Written by a program of this session (xprint) out of the translation; over contracts proved by hand.
import Derived.Test.YtpkaedpgpncgpaaQx0
import Derived.Test.YtpkaedpgpncgpaaSq
import Derived.Test.YtpkaedpgpncgpaaQx2
namespace Go.Proofs.Ytpkaedpgpncgpaa.MBegin
end Go.Proofs.Ytpkaedpgpncgpaa.MBegin
namespace Go.Proofs.Ytpkaedpgpncgpaa.Split
end Go.Proofs.Ytpkaedpgpncgpaa.Split
namespace Go.Proofs.Ytpkaedpgpncgpaa.Q
open Go.Proofs.Ytpkaedpgpncgpaa.MBegin Go.Proofs.Ytpkaedpgpncgpaa.Split
set_option linter.unnecessarySimpa false
open Go.RowKit Go.Proofs.YtpkaedpgpncgpaaW.PrintWords Go.Proofs.YtpkaedpgpncgpaaW.PrintLast Go.Proofs.YtpkaedpgpncgpaaW.PrintMore
attribute [local go_sem] max2_int min2_int max_two min_two max_three min_three max_four min_four   -- for this text's walks alone
set_option linter.unusedVariables false
set_option linter.unusedSimpArgs false

abbrev x3tr41_0 : Array Bool := #[false, false, false, false, false, false, false, false, false, false, false, false, false, false, false, false, false, false, false, false, false, false, false, false, false, false, false, false, false, false, false, false, false, false, false, false, false, false, false, false, false]
abbrev x3tr41_1 : Array Bool := #[true, false, false, false, false, false, false, false, false, false, false, false, false, false, false, false, false, false, false, false, false, false, false, false, false, false, false, false, false, false, false, false, false, false, false, false, false, false, false, false, false]
abbrev x3tr41_10 : Array Bool := #[true, true, true, true, true, true, true, true, true, true, false, false, false, false, false, false, false, false, false, false, false, false, false, false, false, false, false, false, false, false, false, false, false, false, false, false, false, false, false, false, false]
abbrev x3tr41_11 : Array Bool := #[true, true, true, true, true, true, true, true, true, true, true, false, false, false, false, false, false, false, false, false, false, false, false, false, false, false, false, false, false, false, false, false, false, false, false, false, false, false, false, false, false]
abbrev x3tr41_12 : Array Bool := #[true, true, true, true, true, true, true, true, true, true, true, true, false, false, false, false, false, false, false, false, false, false, false, false, false, false, false, false, false, false, false, false, false, false, false, false, false, false, false, false, false]
abbrev x3tr41_13 : Array Bool := #[true, true, true, true, true, true, true, true, true, true, true, true, true, false, false, false, false, false, false, false, false, false, false, false, false, false, false, false, false, false, false, false, false, false, false, false, false, false, false, false, false]
abbrev x3tr41_14 : Array Bool := #[true, true, true, true, true, true, true, true, true, true, true, true, true, true, false, false, false, false, false, false, false, false, false, false, false, false, false, false, false, false, false, false, false, false, false, false, false, false, false, false, false]
abbrev x3tr41_15 : Array Bool := #[true, true, true, true, true, true, true, true, true, true, true, true, true, true, true, false, false, false, false, false, false, false, false, false, false, false, false, false, false, false, false, false, false, false, false, false, false, false, false, false, false]
abbrev x3tr41_16 : Array Bool := #[true, true, true, true, true, true, true, true, true, true, true, true, true, true, true, true, false, false, false, false, false, false, false, false, false, false, false, false, false, false, false, false, false, false, false, false, false, false, false, false, false]
abbrev x3tr41_17 : Array Bool := #[true, true, true, true, true, true, true, true, true, true, true, true, true, true, true, true, true, false, false, false, false, false, false, false, false, false, false, false, false, false, false, false, false, false, false, false, false, false, false, false, false]
abbrev x3tr41_18 : Array Bool := #[true, true, true, true, true, true, true, true, true, true, true, true, true, true, true, true, true, true, false, false, false, false, false, false, false, false, false, false, false, false, false, false, false, false, false, false, false, false, false, false, false]
abbrev x3tr41_19 : Array Bool := #[true, true, true, true, true, true, true, true, true, true, true, true, true, true, true, true, true, true, true, false, false, false, false, false, false, false, false, false, false, false, false, false, false, false, false, false, false, false, false, false, false]
abbrev x3tr41_2 : Array Bool := #[true, true, false, false, false, false, false, false, false, false, false, false, false, false, false, false, false, false, false, false, false, false, false, false, false, false, false, false, false, false, false, false, false, false, false, false, false, false, false, false, false]
abbrev x3tr41_20 : Array Bool := #[true, true, true, true, true, true, true, true, true, true, true, true, true, true, true, true, true, true, true, true, false, false, false, false, false, false, false, false, false, false, false, false, false, false, false, false, false, false, false, false, false]
abbrev x3tr41_21 : Array Bool := #[true, true, true, true, true, true, true, true, true, true, true, true, true, true, true, true, true, true, true, true, true, false, false, false, false, false, false, false, false, false, false, false, false, false, false, false, false, false, false, false, false]
abbrev x3tr41_22 : Array Bool := #[true, true, true, true, true, true, true, true, true, true, true, true, true, true, true, true, true, true, true, true, true, true, false, false, false, false, false, false, false, false, false, false, false, false, false, false, false, false, false, false, false]
abbrev x3tr41_23 : Array Bool := #[true, true, true, true, true, true, true, true, true, true, true, true, true, true, true, true, true, true, true, true, true, true, true, false, false, false, false, false, false, false, false, false, false, false, false, false, false, false, false, false, false]
abbrev x3tr41_24 : Array Bool := #[true, true, true, true, true, true, true, true, true, true, true, true, true, true, true, true, true, true, true, true, true, true, true, true, false, false, false, false, false, false, false, false, false, false, false, false, false, false, false, false, false]
abbrev x3tr41_25 : Array Bool := #[true, true, true, true, true, true, true, true, true, true, true, true, true, true, true, true, true, true, true, true, true, true, true, true, true, false, false, false, false, false, false, false, false, false, false, false, false, false, false, false, false]
abbrev x3tr41_26 : Array Bool := #[true, true, true, true, true, true, true, true, true, true, true, true, true, true, true, true, true, true, true, true, true, true, true, true, true, true, false, false, false, false, false, false, false, false, false, false, false, false, false, false, false]
abbrev x3tr41_27 : Array Bool := #[true, true, true, true, true, true, true, true, true, true, true, true, true, true, true, true, true, true, true, true, true, true, true, true, true, true, true, false, false, false, false, false, false, false, false, false, false, false, false, false, false]
abbrev x3tr41_28 : Array Bool := #[true, true, true, true, true, true, true, true, true, true, true, true, true, true, true, true, true, true, true, true, true, true, true, true, true, true, true, true, false, false, false, false, false, false, false, false, false, false, false, false, false]
abbrev x3tr41_29 : Array Bool := #[true, true, true, true, true, true, true, true, true, true, true, true, true, true, true, true, true, true, true, true, true, true, true, true, true, true, true, true, true, false, false, false, false, false, false, false, false, false, false, false, false]
abbrev x3tr41_3 : Array Bool := #[true, true, true, false, false, false, false, false, false, false, false, false, false, false, false, false, false, false, false, false, false, false, false, false, false, false, false, false, false, false, false, false, false, false, false, false, false, false, false, false, false]
abbrev x3tr41_30 : Array Bool := #[true, true, true, true, true, true, true, true, true, true, true, true, true, true, true, true, true, true, true, true, true, true, true, true, true, true, true, true, true, true, false, false, false, false, false, false, false, false, false, false, false]
abbrev x3tr41_31 : Array Bool := #[true, true, true, true, true, true, true, true, true, true, true, true, true, true, true, true, true, true, true, true, true, true, true, true, true, true, true, true, true, true, true, false, false, false, false, false, false, false, false, false, false]
abbrev x3tr41_32 : Array Bool := #[true, true, true, true, true, true, true, true, true, true, true, true, true, true, true, true, true, true, true, true, true, true, true, true, true, true, true, true, true, true, true, true, false, false, false, false, false, false, false, false, false]
abbrev x3tr41_33 : Array Bool := #[true, true, true, true, true, true, true, true, true, true, true, true, true, true, true, true, true, true, true, true, true, true, true, true, true, true, true, true, true, true, true, true, true, false, false, false, false, false, false, false, false]
abbrev x3tr41_34 : Array Bool := #[true, true, true, true, true, true, true, true, true, true, true, true, true, true, true, true, true, true, true, true, true, true, true, true, true, true, true, true, true, true, true, true, true, true, false, false, false, false, false, false, false]
abbrev x3tr41_35 : Array Bool := #[true, true, true, true, true, true, true, true, true, true, true, true, true, true, true, true, true, true, true, true, true, true, true, true, true, true, true, true, true, true, true, true, true, true, true, false, false, false, false, false, false]
abbrev x3tr41_36 : Array Bool := #[true, true, true, true, true, true, true, true, true, true, true, true, true, true, true, true, true, true, true, true, true, true, true, true, true, true, true, true, true, true, true, true, true, true, true, true, false, false, false, false, false]
abbrev x3tr41_37 : Array Bool := #[true, true, true, true, true, true, true, true, true, true, true, true, true, true, true, true, true, true, true, true, true, true, true, true, true, true, true, true, true, true, true, true, true, true, true, true, true, false, false, false, false]
abbrev x3tr41_38 : Array Bool := #[true, true, true, true, true, true, true, true, true, true, true, true, true, true, true, true, true, true, true, true, true, true, true, true, true, true, true, true, true, true, true, true, true, true, true, true, true, true, false, false, false]
abbrev x3tr41_39 : Array Bool := #[true, true, true, true, true, true, true, true, true, true, true, true, true, true, true, true, true, true, true, true, true, true, true, true, true, true, true, true, true, true, true, true, true, true, true, true, true, true, true, false, false]
abbrev x3tr41_4 : Array Bool := #[true, true, true, true, false, false, false, false, false, false, false, false, false, false, false, false, false, false, false, false, false, false, false, false, false, false, false, false, false, false, false, false, false, false, false, false, false, false, false, false, false]
abbrev x3tr41_40 : Array Bool := #[true, true, true, true, true, true, true, true, true, true, true, true, true, true, true, true, true, true, true, true, true, true, true, true, true, true, true, true, true, true, true, true, true, true, true, true, true, true, true, true, false]
abbrev x3tr41_41 : Array Bool := #[true, true, true, true, true, true, true, true, true, true, true, true, true, true, true, true, true, true, true, true, true, true, true, true, true, true, true, true, true, true, true, true, true, true, true, true, true, true, true, true, true]
abbrev x3tr41_5 : Array Bool := #[true, true, true, true, true, false, false, false, false, false, false, false, false, false, false, false, false, false, false, false, false, false, false, false, false, false, false, false, false, false, false, false, false, false, false, false, false, false, false, false, false]
abbrev x3tr41_6 : Array Bool := #[true, true, true, true, true, true, false, false, false, false, false, false, false, false, false, false, false, false, false, false, false, false, false, false, false, false, false, false, false, false, false, false, false, false, false, false, false, false, false, false, false]
abbrev x3tr41_7 : Array Bool := #[true, true, true, true, true, true, true, false, false, false, false, false, false, false, false, false, false, false, false, false, false, false, false, false, false, false, false, false, false, false, false, false, false, false, false, false, false, false, false, false, false]
abbrev x3tr41_8 : Array Bool := #[true, true, true, true, true, true, true, true, false, false, false, false, false, false, false, false, false, false, false, false, false, false, false, false, false, false, false, false, false, false, false, false, false, false, false, false, false, false, false, false, false]
abbrev x3tr41_9 : Array Bool := #[true, true, true, true, true, true, true, true, true, false, false, false, false, false, false, false, false, false, false, false, false, false, false, false, false, false, false, false, false, false, false, false, false, false, false, false, false, false, false, false, false]
abbrev x3tr41_m11111111111111111111111111111111111010000 : Array Bool := #[true, true, true, true, true, true, true, true, true, true, true, true, true, true, true, true, true, true, true, true, true, true, true, true, true, true, true, true, true, true, true, true, true, true, true, false, true, false, false, false, false]
/-! ### mounts_Right: function 20 -/
def mounts_Right.l0 : Nat → List (S27) → List (S27) → Int → Int → Option (Bool)
 | 0, _, _, _, _ => none
 | k + 1, x0, x5, x6, x7 => if x7 < x6 then (if 0 ≤ x7 then (if x7 < (x5.length : Int) then ((path_Right.f ((rd_T27 x5 x7).f0)).bind fun t108 => (if t108 = true then ((mounts_group.f ((rd_T27 x5 x7).f1)).bind fun t109 => (if t109 = true then ((mounts_group.f ((rd_T27 x5 x7).f3)).bind fun t110 => (if t110 = true then (if ((rd_T27 x5 x7).f2) < 0 then (some false) else (if ((rd_T27 x5 x7).f2) > 281474976710656 then (some false) else (if x7 > 0 then (if 0 ≤ (wrap64 (x7 - 1)) then (if (wrap64 (x7 - 1)) < (x0.length : Int) then (if ((Op.bytesLess (((rd_T27 x0 (wrap64 (x7 - 1))).f0).toList) (((rd_T27 x5 x7).f0).toList)) = true) then (mounts_Right.l0 k x0 x5 x6 (wrap64 (x7 + 1))) else (some false)) else (none)) else (none)) else (mounts_Right.l0 k x0 x5 x6 (wrap64 (x7 + 1)))))) else (some false))) else (some false))) else (some false))) else (none)) else (none)) else (if (x0.length : Int) > 0 then (if (x0.length : Int) ≤ 32 then (if 0 < (x0.length : Int) then (some (((rd_T27 x0 0).f0).toList == ([47] : List UInt8))) else (none)) else (some false)) else (some false))
def mounts_Right.f (k : Nat) (l0 : List (S27)) : Option (Bool) := mounts_Right.l0 k l0 l0 (l0.length : Int) 0
theorem mounts_Right.mono_l : ∀ k, (∀ y0 y1 y2 y3, LeO (mounts_Right.l0 k y0 y1 y2 y3) (mounts_Right.l0 (k + 1) y0 y1 y2 y3))
 | 0 => fun _ _ _ _ r h => by simp [mounts_Right.l0] at h
 | k + 1 => by
  have ih0 := mounts_Right.mono_l k
  ·intro y0 y1 y2 y3
   unfold mounts_Right.l0
   repeat' first
   | (with_reducible exact ih0 _ _ _ _)
   | (with_reducible exact LeO.refl _)
   | (with_reducible exact LeO.none _)
   | (with_reducible refine LeO.ite ?_ ?_)
   | (with_reducible refine LeO.bind ?_ (fun _ => ?_))
   | exact ih0 _ _ _ _
   | exact LeO.none _
   | refine LeO.ite ?_ ?_
   | refine LeO.bind ?_ (fun _ => ?_)
theorem mounts_Right.mono : ∀ a0 k, LeO (mounts_Right.f k a0) (mounts_Right.f (k + 1) a0) := by
 intro a0 k
 have ih0 := mounts_Right.mono_l k
 unfold mounts_Right.f
 repeat' first
   | (with_reducible exact ih0 _ _ _ _)
   | (with_reducible exact LeO.refl _)
   | (with_reducible exact LeO.none _)
   | (with_reducible refine LeO.ite ?_ ?_)
   | (with_reducible refine LeO.bind ?_ (fun _ => ?_))
   | exact ih0 _ _ _ _
   | exact LeO.none _
   | refine LeO.ite ?_ ?_
   | refine LeO.bind ?_ (fun _ => ?_)
def mounts_Right.T4 : Bool × List (List Nat × List Nat) := (true, [([], []), ([0], [0]), ([1], [1]), ([2], [2]), ([3, 2], [3]), ([4], [4]), ([5, 4], [4, 5]), ([6, 4, 4], [4, 6]), ([7, 4], [4, 7]), ([4, 8], [4, 8]), ([9, 7], [9]), ([10], [10]), ([11, 10], [10, 11]), ([12, 10, 10], [10, 12]), ([13, 10], [10, 13]), ([10, 14], [10, 14]), ([15, 13], [15]), ([16], [16]), ([17, 16], [16, 17]), ([18, 16], [16, 18]), ([16, 19], [16, 19]), ([20, 16], [20]), ([21], [21]), ([22, 21], [21, 22]), ([23, 21], [21, 23]), ([21, 24], [21, 24]), ([25, 21], [25]), ([26], [26]), ([27, 26], [26, 27]), ([28, 26, 26], [26, 28]), ([29], [29]), ([29], [29]), ([31, 29], [29, 31]), ([30, 32, 29], [29, 30, 32]), ([33, 29], [29, 33]), ([34, 29], [29, 34]), ([29], [29]), ([36, 29], [29, 36]), ([35, 37, 29], [29, 35, 37]), ([29, 38, 26], [26, 29, 38]), ([26, 39], [26, 39])])
def mounts_Right.B4 : List Nat := [0, 1, 3, 7, 15, 31, 63, 127, 255, 511, 1023, 2047, 4095, 8191, 16383, 32767, 65535, 131071, 262143, 524287, 1048575, 2097151, 4194303, 8388607, 16777215, 33554431, 67108863, 134217727, 268435455, 536870911, 1073741823, 1073741823, 3221225471, 8589934591, 17179869183, 34359738367, 1073741823, 69793218559, 274877906943, 549755813887, 1099511627775]
theorem mounts_Right.tab4 : rtab .any (opsOf Try.f20 4) = mounts_Right.T4 := by kernel_rfl
theorem mounts_Right.bits4 : waitsOk mounts_Right.T4.2 mounts_Right.B4 = true := by kernel_rfl
set_option maxHeartbeats 8000000 in
set_option maxRecDepth 100000 in
theorem mounts_Right.calls (k : Nat) (A0 : Option Addr) (c0 : Nat) (l0 : List (S27)) (r : Bool) (w : World) (hr0 : Kd.C k27 w A0 l0.length l0) (hc0 : l0.length ≤ c0) (h : mounts_Right.f k l0 = some r) :
  Calls Try.prog 20 #[.slice A0 l0.length c0] w fun e w' => e = .returned (.bool r) ∧ Below w.heap.size w w' := by
 have hu27 := Try.underlying27
 have HR0 := Aside0.mk hr0
 have HC0 := Aside0.mk hc0
 clear hr0 hc0
 have HB := Aside0.mk (Below.refl w.heap.size w)
 have H : (mounts_Right.l0 k l0 l0 (l0.length : Int) 0) = some r := h
 clear h
 have H' := Aside0.mk H
 clear H
 go_enter Try.func20, Try.ntmps20
 go_wp2
 go_loopg [7] k (fun kq v7 w' => ∃ (x7_1 : Int), v7 = .int .i64 x7_1 ∧ Aside0 (mounts_Right.l0 kq l0 l0 (l0.length : Int) x7_1 = some r) ∧ Aside0 (kq ≤ k) ∧ Aside0 (Below w.heap.size w w'))
 case atStart => exact ⟨(0), (by first | rfl | (simp; done) | (simp [*]; done)), H', ⟨Nat.le_refl _⟩, ⟨by repeat (first | (with_reducible first | exact HB.out | apply below_alloc | apply pw_below_drewN | apply below_drew1) | exact HB.out)⟩⟩
 case round =>
  clear H'
  obtain ⟨x7_1, rfl, HA, HK1, HB⟩ := hrel
  cases gk with
  | zero => exact absurd HA.out (by simp [mounts_Right.l0])
  | succ k1 =>
   have H := HA.out
   clear HA
   simp only [mounts_Right.l0] at H
   by_cases c2 : x7_1 < (l0.length : Int)
   ·rw [if_pos c2] at H
    have c2b0 : decide (x7_1 < (l0.length : Int)) = true := decide_eq_true c2
    clear c2
    by_cases c3 : 0 ≤ x7_1
    ·rw [if_pos c3] at H
     have c3b0 : decide (0 ≤ x7_1) = true := decide_eq_true c3
     clear c3
     by_cases c4 : x7_1 < (l0.length : Int)
     ·rw [if_pos c4] at H
      have c4b0 : decide (x7_1 < (l0.length : Int)) = true := decide_eq_true c4
      clear c4
      replace H := Option.bind_eq_some_iff.mp H
      obtain ⟨t108, A50, H⟩ := H
      replace H : (if t108 = true then ((mounts_group.f ((rd_T27 l0 x7_1).f1)).bind fun t109 => (if t109 = true then ((mounts_group.f ((rd_T27 l0 x7_1).f3)).bind fun t110 => (if t110 = true then (if ((rd_T27 l0 x7_1).f2) < 0 then (some false) else (if ((rd_T27 l0 x7_1).f2) > 281474976710656 then (some false) else (if x7_1 > 0 then (if 0 ≤ (wrap64 (x7_1 - 1)) then (if (wrap64 (x7_1 - 1)) < (l0.length : Int) then (if ((Op.bytesLess (((rd_T27 l0 (wrap64 (x7_1 - 1))).f0).toList) (((rd_T27 l0 x7_1).f0).toList)) = true) then (mounts_Right.l0 k1 l0 l0 (l0.length : Int) (wrap64 (x7_1 + 1))) else (some false)) else (none)) else (none)) else (mounts_Right.l0 k1 l0 l0 (l0.length : Int) (wrap64 (x7_1 + 1)))))) else (some false))) else (some false))) else (some false)) = some r := H
      have A5 := Aside0.mk A50
      clear A50
      by_cases c6 : t108 = true
      ·subst c6
       have H1 : ((mounts_group.f ((rd_T27 l0 x7_1).f1)).bind fun t109 => (if t109 = true then ((mounts_group.f ((rd_T27 l0 x7_1).f3)).bind fun t110 => (if t110 = true then (if ((rd_T27 l0 x7_1).f2) < 0 then (some false) else (if ((rd_T27 l0 x7_1).f2) > 281474976710656 then (some false) else (if x7_1 > 0 then (if 0 ≤ (wrap64 (x7_1 - 1)) then (if (wrap64 (x7_1 - 1)) < (l0.length : Int) then (if ((Op.bytesLess (((rd_T27 l0 (wrap64 (x7_1 - 1))).f0).toList) (((rd_T27 l0 x7_1).f0).toList)) = true) then (mounts_Right.l0 k1 l0 l0 (l0.length : Int) (wrap64 (x7_1 + 1))) else (some false)) else (none)) else (none)) else (mounts_Right.l0 k1 l0 l0 (l0.length : Int) (wrap64 (x7_1 + 1)))))) else (some false))) else (some false))) = some r := by rw [if_pos rfl] at H; exact H
       clear H
       have H := H1
       clear H1
       replace H := Option.bind_eq_some_iff.mp H
       obtain ⟨t109, A70, H⟩ := H
       replace H : (if t109 = true then ((mounts_group.f ((rd_T27 l0 x7_1).f3)).bind fun t110 => (if t110 = true then (if ((rd_T27 l0 x7_1).f2) < 0 then (some false) else (if ((rd_T27 l0 x7_1).f2) > 281474976710656 then (some false) else (if x7_1 > 0 then (if 0 ≤ (wrap64 (x7_1 - 1)) then (if (wrap64 (x7_1 - 1)) < (l0.length : Int) then (if ((Op.bytesLess (((rd_T27 l0 (wrap64 (x7_1 - 1))).f0).toList) (((rd_T27 l0 x7_1).f0).toList)) = true) then (mounts_Right.l0 k1 l0 l0 (l0.length : Int) (wrap64 (x7_1 + 1))) else (some false)) else (none)) else (none)) else (mounts_Right.l0 k1 l0 l0 (l0.length : Int) (wrap64 (x7_1 + 1)))))) else (some false))) else (some false)) = some r := H
       have A7 := Aside0.mk A70
       clear A70
       by_cases c8 : t109 = true
       ·subst c8
        have H1 : ((mounts_group.f ((rd_T27 l0 x7_1).f3)).bind fun t110 => (if t110 = true then (if ((rd_T27 l0 x7_1).f2) < 0 then (some false) else (if ((rd_T27 l0 x7_1).f2) > 281474976710656 then (some false) else (if x7_1 > 0 then (if 0 ≤ (wrap64 (x7_1 - 1)) then (if (wrap64 (x7_1 - 1)) < (l0.length : Int) then (if ((Op.bytesLess (((rd_T27 l0 (wrap64 (x7_1 - 1))).f0).toList) (((rd_T27 l0 x7_1).f0).toList)) = true) then (mounts_Right.l0 k1 l0 l0 (l0.length : Int) (wrap64 (x7_1 + 1))) else (some false)) else (none)) else (none)) else (mounts_Right.l0 k1 l0 l0 (l0.length : Int) (wrap64 (x7_1 + 1)))))) else (some false))) = some r := by rw [if_pos rfl] at H; exact H
        clear H
        have H := H1
        clear H1
        replace H := Option.bind_eq_some_iff.mp H
        obtain ⟨t110, A90, H⟩ := H
        replace H : (if t110 = true then (if ((rd_T27 l0 x7_1).f2) < 0 then (some false) else (if ((rd_T27 l0 x7_1).f2) > 281474976710656 then (some false) else (if x7_1 > 0 then (if 0 ≤ (wrap64 (x7_1 - 1)) then (if (wrap64 (x7_1 - 1)) < (l0.length : Int) then (if ((Op.bytesLess (((rd_T27 l0 (wrap64 (x7_1 - 1))).f0).toList) (((rd_T27 l0 x7_1).f0).toList)) = true) then (mounts_Right.l0 k1 l0 l0 (l0.length : Int) (wrap64 (x7_1 + 1))) else (some false)) else (none)) else (none)) else (mounts_Right.l0 k1 l0 l0 (l0.length : Int) (wrap64 (x7_1 + 1)))))) else (some false)) = some r := H
        have A9 := Aside0.mk A90
        clear A90
        by_cases c10 : t110 = true
        ·subst c10
         have H1 : (if ((rd_T27 l0 x7_1).f2) < 0 then (some false) else (if ((rd_T27 l0 x7_1).f2) > 281474976710656 then (some false) else (if x7_1 > 0 then (if 0 ≤ (wrap64 (x7_1 - 1)) then (if (wrap64 (x7_1 - 1)) < (l0.length : Int) then (if ((Op.bytesLess (((rd_T27 l0 (wrap64 (x7_1 - 1))).f0).toList) (((rd_T27 l0 x7_1).f0).toList)) = true) then (mounts_Right.l0 k1 l0 l0 (l0.length : Int) (wrap64 (x7_1 + 1))) else (some false)) else (none)) else (none)) else (mounts_Right.l0 k1 l0 l0 (l0.length : Int) (wrap64 (x7_1 + 1)))))) = some r := by rw [if_pos rfl] at H; exact H
         clear H
         have H := H1
         clear H1
         by_cases c11 : ((rd_T27 l0 x7_1).f2) < 0
         ·rw [if_pos c11] at H
          have c11b0 : decide (((rd_T27 l0 x7_1).f2) < 0) = true := decide_eq_true c11
          clear c11
          obtain rfl := Option.some.inj H
          have p106 : 0 ≤ (x7_1 : Int) := of_decide_eq_true (by first | (with_reducible assumption) | assumption)
          have q106 : x7_1 < (l0.length : Int) := of_decide_eq_true (by first | (with_reducible assumption) | assumption)
          obtain ⟨ad106, e106, hx106_0, hx106_1, hx106_2, hx106_3⟩ := at_T27 HR0.out x7_1 p106 q106
          cases e106
          replace hx106_0 := (HB.out.cell (World.block_lt_of_cell? w _ hx106_0)).trans hx106_0
          replace hx106_1 := (HB.out.cell (World.block_lt_of_cell? w _ hx106_1)).trans hx106_1
          replace hx106_2 := (HB.out.cell (World.block_lt_of_cell? w _ hx106_2)).trans hx106_2
          replace hx106_3 := (HB.out.cell (World.block_lt_of_cell? w _ hx106_3)).trans hx106_3
          replace p106 := eq_true p106
          replace q106 := eq_true q106
          try go_wp2_with (first | ((with_reducible refine gate_dst (N := 4) rfl ?_); (try (refine gate_guard (by rfl) ?_; dsimp only)); refine box_event ?hg (N := 4) ?hd (cs := #[.string (⟨#[]⟩ : ByteArray), .int .i64 0, .int .i64 0, .int .i64 0]) (t := 27) ?hr ?_; (case hd => rfl); (case hg => rfl); (case hr => first | (go_simp; done) | (go_simp; rfl)); intro gb107 hg w12 hbox hb; have n0_ := Aside0.mk (below_step (by repeat (first | (with_reducible first | exact HB.out | apply below_alloc | apply pw_below_drewN | apply below_drew1) | exact HB.out)) hb); have n1_ := Aside0.mk (hbox); have n2_ := Aside0.mk ((by rw [hg]; exact (below_size (by repeat (first | (with_reducible first | exact HB.out | apply below_alloc | apply pw_below_drewN | apply below_drew1) | exact HB.out))) : w.heap.size ≤ gb107)); have n3_ := Aside0.mk ((by rw [hg]; exact (below_size (by repeat (first | (with_reducible first | exact HB.out | apply below_alloc | apply pw_below_drewN | apply below_drew1) | exact HB.out))) : w.heap.size ≤ gb107)); clear HB; have HB := n0_; have BK107 := n1_; have GW107 := n2_; have GE107 := n3_; clear n0_ n1_ n2_ n3_; clear hb hbox hg; have hcz13_0 : w12.cell? ⟨gb107, 0, none⟩ = some (.string (⟨#[]⟩ : ByteArray)) := (blk_cell BK107.out 0).trans rfl; have hcz13_1 : w12.cell? ⟨gb107, 1, none⟩ = some (.int .i64 0) := (blk_cell BK107.out 1).trans rfl; have hcz13_2 : w12.cell? ⟨gb107, 2, none⟩ = some (.int .i64 0) := (blk_cell BK107.out 2).trans rfl; have hcz13_3 : w12.cell? ⟨gb107, 3, none⟩ = some (.int .i64 0) := (blk_cell BK107.out 3).trans rfl; have hfz13_0 := blk_frozen BK107.out 0; have hfz13_1 := blk_frozen BK107.out 1; have hfz13_2 := blk_frozen BK107.out 2; have hfz13_3 := blk_frozen BK107.out 3))
          have n0_ : Aside0 (((((w12.setCell ⟨gb107, 0, none⟩ (.string ((rd_T27 l0 x7_1).f0))).setCell ⟨gb107, 1, none⟩ (.int .i64 ((rd_T27 l0 x7_1).f1))).setCell ⟨gb107, 2, none⟩ (.int .i64 ((rd_T27 l0 x7_1).f2))).setCell ⟨gb107, 3, none⟩ (.int .i64 ((rd_T27 l0 x7_1).f3))).heap[gb107]? = some (.cells #[.string ((rd_T27 l0 x7_1).f0), .int .i64 ((rd_T27 l0 x7_1).f1), .int .i64 ((rd_T27 l0 x7_1).f2), .int .i64 ((rd_T27 l0 x7_1).f3)] 27 (0, 0))) := ⟨by (with_reducible repeat (first | refine blk_drewN ?_ _ | refine blk_drew ?_ | refine blk_alloc ?_ _)); refine blk_put (cs := #[.string ((rd_T27 l0 x7_1).f0), .int .i64 ((rd_T27 l0 x7_1).f1), .int .i64 ((rd_T27 l0 x7_1).f2), .int .i64 0]) ?_ 3 _ rfl; (with_reducible repeat (first | refine blk_drewN ?_ _ | refine blk_drew ?_ | refine blk_alloc ?_ _)); refine blk_put (cs := #[.string ((rd_T27 l0 x7_1).f0), .int .i64 ((rd_T27 l0 x7_1).f1), .int .i64 0, .int .i64 0]) ?_ 2 _ rfl; (with_reducible repeat (first | refine blk_drewN ?_ _ | refine blk_drew ?_ | refine blk_alloc ?_ _)); refine blk_put (cs := #[.string ((rd_T27 l0 x7_1).f0), .int .i64 0, .int .i64 0, .int .i64 0]) ?_ 1 _ rfl; (with_reducible repeat (first | refine blk_drewN ?_ _ | refine blk_drew ?_ | refine blk_alloc ?_ _)); refine blk_put (cs := #[.string (⟨#[]⟩ : ByteArray), .int .i64 0, .int .i64 0, .int .i64 0]) ?_ 0 _ rfl; (with_reducible repeat (first | refine blk_drewN ?_ _ | refine blk_drew ?_ | refine blk_alloc ?_ _)); exact BK107.out⟩
          have n1_ : Aside0 (Below w.heap.size w ((((w12.setCell ⟨gb107, 0, none⟩ (.string ((rd_T27 l0 x7_1).f0))).setCell ⟨gb107, 1, none⟩ (.int .i64 ((rd_T27 l0 x7_1).f1))).setCell ⟨gb107, 2, none⟩ (.int .i64 ((rd_T27 l0 x7_1).f2))).setCell ⟨gb107, 3, none⟩ (.int .i64 ((rd_T27 l0 x7_1).f3)))) := ⟨by repeat (first | (with_reducible first | exact HB.out | apply below_alloc | apply pw_below_drewN | apply below_drew1 | refine below_set ?_ GE107.out) | exact HB.out)⟩
          (try clear BK107)
          (try clear HB)
          generalize ((((w12.setCell ⟨gb107, 0, none⟩ (.string ((rd_T27 l0 x7_1).f0))).setCell ⟨gb107, 1, none⟩ (.int .i64 ((rd_T27 l0 x7_1).f1))).setCell ⟨gb107, 2, none⟩ (.int .i64 ((rd_T27 l0 x7_1).f2))).setCell ⟨gb107, 3, none⟩ (.int .i64 ((rd_T27 l0 x7_1).f3))) = w14 at n0_ n1_ ⊢
          have BK107 := n0_
          have HB := n1_
          clear n0_ n1_
          have n0_ := Aside0.mk (blk_drew BK107.out)
          have n1_ := Aside0.mk (below_drew1 HB.out)
          clear BK107
          clear HB
          have BK107 := n0_
          have HB := n1_
          clear n0_ n1_
          refine start_ (n := 41) (S := fun w' => w'.cell? ⟨gb107, 0, none⟩ = some (.string ((rd_T27 l0 x7_1).f0)) ∧ w'.cell? ⟨gb107, 1, none⟩ = some (.int .i64 ((rd_T27 l0 x7_1).f1)) ∧ w'.cell? ⟨gb107, 2, none⟩ = some (.int .i64 ((rd_T27 l0 x7_1).f2)) ∧ w'.cell? ⟨gb107, 3, none⟩ = some (.int .i64 ((rd_T27 l0 x7_1).f3))) (ds := []) x3tr41_0 (by kernel_rfl) rfl rfl ⟨(blk_cell BK107.out 0).trans rfl, (blk_cell BK107.out 1).trans rfl, (blk_cell BK107.out 2).trans rfl, (blk_cell BK107.out 3).trans rfl⟩ (fun hHeld => ?_); refine with_tabW mounts_Right.tab4 mounts_Right.bits4 (fun HT_ HW_ => ?_)
          generalize w14.drew = w15 at BK107 HB hHeld ⊢
          refine pA_ 0 12 x3tr41_1 HT_.out ?_
          refine take_ (i := 1) (N := some 13) (v := ?_) (a' := ?_) x3tr41_2 rfl rfl (take_ofW HT_.out HW_.out (by kernel_rfl)) (fun _ _ _ h => h) (Or.inl ⟨by rfl, ?_⟩) hHeld ?_ ?_
          rotate_left
          ·rintro w' ⟨s0, s1, s2, s3⟩
           go_simp
           with_reducible rfl
          rotate_left
          ·simp only [Act.put, List.setIfInBounds_toArray, List.set_cons_zero, List.set_cons_succ, i64_w, i32_w]
           rfl
          refine one_ (i := 2) (N := some 14) x3tr41_3 rfl rfl (one_of HT_.out (by kernel_rfl)) (by decide) (fun K hK => ?_)
          refine goes_ Try.func23 (by kernel_rfl) rfl #[.string ((rd_T27 l0 x7_1).f0)] (by rfl) rfl rfl (by (try simp only [List.map_toArray, List.map_cons, List.map_nil]); first | done | rfl | (simp only [List.length_drop, List.length_take]; rfl)) ?_
          with_reducible refine (path_Right.calls ((rd_T27 l0 x7_1).f0) true _ A5.out).mono ?_
          rintro e w16 ⟨rfl, hb⟩
          refine ⟨_, rfl, ?_⟩
          have n0_ := Aside0.mk (blk_below (g := gb107) (o := .cells #[.string ((rd_T27 l0 x7_1).f0), .int .i64 ((rd_T27 l0 x7_1).f1), .int .i64 ((rd_T27 l0 x7_1).f2), .int .i64 ((rd_T27 l0 x7_1).f3)] 27 (0, 0)) (by (with_reducible repeat (first | refine blk_drewN ?_ _ | refine blk_drew ?_ | refine blk_alloc ?_ _)); exact BK107.out) hb)
          have n1_ := Aside0.mk (below_step (by repeat (first | (with_reducible first | exact HB.out | apply below_alloc | apply pw_below_drewN | apply below_drew1 | refine below_set ?_ GE107.out) | exact HB.out)) hb)
          clear BK107
          clear HB
          have BK107 := n0_
          have HB := n1_
          clear n0_ n1_
          (try clear hb)
          (try clear hb2)
          (try clear hk)
          (try clear hi)
          refine hK.out _ _ ⟨(blk_cell BK107.out 0).trans rfl, (blk_cell BK107.out 1).trans rfl, (blk_cell BK107.out 2).trans rfl, (blk_cell BK107.out 3).trans rfl⟩ (fun hHeld => ?_)
          clear hK K
          refine norm_ (a' := ?_) ?_ ?_
          rotate_left
          ·show Act.put _ (some 14) _ = _
           simp only [Act.put, List.setIfInBounds_toArray, List.set_cons_zero, List.set_cons_succ, i64_w, i32_w]
           rfl
          refine pA_ 3 15 x3tr41_4 HT_.out ?_
          refine pA_ 4 16 x3tr41_5 HT_.out ?_
          refine pA_ 5 17 x3tr41_6 HT_.out ?_
          refine take_ (i := 6) (N := some 18) (v := ?_) (a' := ?_) x3tr41_7 rfl rfl (take_ofW HT_.out HW_.out (by kernel_rfl)) (fun _ _ _ h => h) (Or.inl ⟨by rfl, ?_⟩) hHeld ?_ ?_
          rotate_left
          ·rintro w' ⟨s0, s1, s2, s3⟩
           go_simp
           with_reducible rfl
          rotate_left
          ·simp only [Act.put, List.setIfInBounds_toArray, List.set_cons_zero, List.set_cons_succ, i64_w, i32_w]
           rfl
          refine one_ (i := 7) (N := some 19) x3tr41_8 rfl rfl (one_of HT_.out (by kernel_rfl)) (by decide) (fun K hK => ?_)
          refine goes_ Try.func24 (by kernel_rfl) rfl #[.int .i64 ((rd_T27 l0 x7_1).f1)] (by rfl) rfl rfl (by (try simp only [List.map_toArray, List.map_cons, List.map_nil]); first | done | rfl | (simp only [List.length_drop, List.length_take]; rfl)) ?_
          with_reducible refine (mounts_group.calls ((rd_T27 l0 x7_1).f1) true _ A7.out).mono ?_
          rintro e w' ⟨rfl, ⟨nd, rfl⟩⟩
          refine ⟨_, rfl, ?_⟩
          refine hK.out _ _ ⟨(blk_cell BK107.out 0).trans rfl, (blk_cell BK107.out 1).trans rfl, (blk_cell BK107.out 2).trans rfl, (blk_cell BK107.out 3).trans rfl⟩ (fun hHeld => ?_)
          clear hK K
          refine norm_ (a' := ?_) ?_ ?_
          rotate_left
          ·show Act.put _ (some 19) _ = _
           simp only [Act.put, List.setIfInBounds_toArray, List.set_cons_zero, List.set_cons_succ, i64_w, i32_w]
           rfl
          refine pA_ 8 20 x3tr41_9 HT_.out ?_
          refine pA_ 9 21 x3tr41_10 HT_.out ?_
          refine pA_ 10 22 x3tr41_11 HT_.out ?_
          refine pA_ 11 23 x3tr41_12 HT_.out ?_
          refine take_ (i := 12) (N := some 24) (v := ?_) (a' := ?_) x3tr41_13 rfl rfl (take_ofW HT_.out HW_.out (by kernel_rfl)) (fun _ _ _ h => h) (Or.inl ⟨by rfl, ?_⟩) hHeld ?_ ?_
          rotate_left
          ·rintro w' ⟨s0, s1, s2, s3⟩
           go_simp
           with_reducible rfl
          rotate_left
          ·simp only [Act.put, List.setIfInBounds_toArray, List.set_cons_zero, List.set_cons_succ, i64_w, i32_w]
           rfl
          refine one_ (i := 13) (N := some 25) x3tr41_14 rfl rfl (one_of HT_.out (by kernel_rfl)) (by decide) (fun K hK => ?_)
          refine goes_ Try.func24 (by kernel_rfl) rfl #[.int .i64 ((rd_T27 l0 x7_1).f3)] (by rfl) rfl rfl (by (try simp only [List.map_toArray, List.map_cons, List.map_nil]); first | done | rfl | (simp only [List.length_drop, List.length_take]; rfl)) ?_
          with_reducible refine (mounts_group.calls ((rd_T27 l0 x7_1).f3) true _ A9.out).mono ?_
          rintro e w' ⟨rfl, ⟨nd, rfl⟩⟩
          refine ⟨_, rfl, ?_⟩
          refine hK.out _ _ ⟨(blk_cell BK107.out 0).trans rfl, (blk_cell BK107.out 1).trans rfl, (blk_cell BK107.out 2).trans rfl, (blk_cell BK107.out 3).trans rfl⟩ (fun hHeld => ?_)
          clear hK K
          refine norm_ (a' := ?_) ?_ ?_
          rotate_left
          ·show Act.put _ (some 25) _ = _
           simp only [Act.put, List.setIfInBounds_toArray, List.set_cons_zero, List.set_cons_succ, i64_w, i32_w]
           rfl
          refine pA_ 14 26 x3tr41_15 HT_.out ?_
          refine pA_ 15 27 x3tr41_16 HT_.out ?_
          refine pA_ 16 28 x3tr41_17 HT_.out ?_
          refine pA_ 17 29 x3tr41_18 HT_.out ?_
          refine take_ (i := 18) (N := some 30) (v := ?_) (a' := ?_) x3tr41_19 rfl rfl (take_ofW HT_.out HW_.out (by kernel_rfl)) (fun _ _ _ h => h) (Or.inl ⟨by rfl, ?_⟩) hHeld ?_ ?_
          rotate_left
          ·rintro w' ⟨s0, s1, s2, s3⟩
           go_simp
           with_reducible rfl
          rotate_left
          ·simp only [Act.put, List.setIfInBounds_toArray, List.set_cons_zero, List.set_cons_succ, i64_w, i32_w]
           rfl
          refine pA_ 19 31 x3tr41_20 HT_.out ?_
          refine pA_ 20 32 x3tr41_21 HT_.out ?_
          refine pA_ 21 33 x3tr41_22 HT_.out ?_
          refine pU_ 22 34 x3tr41_23 HT_.out ?_
          refine pU_ 23 35 x3tr41_24 HT_.out ?_
          refine pU_ 24 36 x3tr41_25 HT_.out ?_
          refine pA_ 25 37 x3tr41_26 HT_.out ?_
          refine pA_ 26 38 x3tr41_27 HT_.out ?_
          refine pU_ 27 39 x3tr41_28 HT_.out ?_
          refine pU_ 28 40 x3tr41_29 HT_.out ?_
          refine pU_ 29 41 x3tr41_30 HT_.out ?_
          refine pU_ 30 42 x3tr41_31 HT_.out ?_
          refine pU_ 31 43 x3tr41_32 HT_.out ?_
          refine pU_ 32 44 x3tr41_33 HT_.out ?_
          refine pU_ 33 45 x3tr41_34 HT_.out ?_
          refine pU_ 34 46 x3tr41_35 HT_.out ?_
          refine pU_ 35 47 x3tr41_36 HT_.out ?_
          refine pU_ 36 48 x3tr41_37 HT_.out ?_
          refine pU_ 37 49 x3tr41_38 HT_.out ?_
          refine pU_ 38 50 x3tr41_39 HT_.out ?_
          refine pU_ 39 51 x3tr41_40 HT_.out ?_
          refine pA_ 40 52 x3tr41_41 HT_.out ?_
          refine done_ (done_of HT_.out (by kernel_rfl)) ?_
          try go_wp2
          go_ret
          exact ⟨by first | rfl | (simp [errW_none, errW_some] <;> rfl) | (simp [*, errW_none, errW_some] <;> rfl), by repeat (first | (with_reducible first | exact HB.out | apply below_alloc | apply pw_below_drewN | apply below_drew1 | refine below_set ?_ GE107.out) | exact HB.out)⟩
         ·rw [if_neg c11] at H
          have c11b0 : decide (((rd_T27 l0 x7_1).f2) < 0) = false := decide_eq_false c11
          clear c11
          by_cases c17 : ((rd_T27 l0 x7_1).f2) > 281474976710656
          ·rw [if_pos c17] at H
           have c17b0 : decide (281474976710656 < ((rd_T27 l0 x7_1).f2)) = true := decide_eq_true c17
           clear c17
           obtain rfl := Option.some.inj H
           have p106 : 0 ≤ (x7_1 : Int) := of_decide_eq_true (by first | (with_reducible assumption) | assumption)
           have q106 : x7_1 < (l0.length : Int) := of_decide_eq_true (by first | (with_reducible assumption) | assumption)
           obtain ⟨ad106, e106, hx106_0, hx106_1, hx106_2, hx106_3⟩ := at_T27 HR0.out x7_1 p106 q106
           cases e106
           replace hx106_0 := (HB.out.cell (World.block_lt_of_cell? w _ hx106_0)).trans hx106_0
           replace hx106_1 := (HB.out.cell (World.block_lt_of_cell? w _ hx106_1)).trans hx106_1
           replace hx106_2 := (HB.out.cell (World.block_lt_of_cell? w _ hx106_2)).trans hx106_2
           replace hx106_3 := (HB.out.cell (World.block_lt_of_cell? w _ hx106_3)).trans hx106_3
           replace p106 := eq_true p106
           replace q106 := eq_true q106
           try go_wp2_with (first | ((with_reducible refine gate_dst (N := 4) rfl ?_); (try (refine gate_guard (by rfl) ?_; dsimp only)); refine box_event ?hg (N := 4) ?hd (cs := #[.string (⟨#[]⟩ : ByteArray), .int .i64 0, .int .i64 0, .int .i64 0]) (t := 27) ?hr ?_; (case hd => rfl); (case hg => rfl); (case hr => first | (go_simp; done) | (go_simp; rfl)); intro gb107 hg w18 hbox hb; have n0_ := Aside0.mk (below_step (by repeat (first | (with_reducible first | exact HB.out | apply below_alloc | apply pw_below_drewN | apply below_drew1) | exact HB.out)) hb); have n1_ := Aside0.mk (hbox); have n2_ := Aside0.mk ((by rw [hg]; exact (below_size (by repeat (first | (with_reducible first | exact HB.out | apply below_alloc | apply pw_below_drewN | apply below_drew1) | exact HB.out))) : w.heap.size ≤ gb107)); have n3_ := Aside0.mk ((by rw [hg]; exact (below_size (by repeat (first | (with_reducible first | exact HB.out | apply below_alloc | apply pw_below_drewN | apply below_drew1) | exact HB.out))) : w.heap.size ≤ gb107)); clear HB; have HB := n0_; have BK107 := n1_; have GW107 := n2_; have GE107 := n3_; clear n0_ n1_ n2_ n3_; clear hb hbox hg; have hcz19_0 : w18.cell? ⟨gb107, 0, none⟩ = some (.string (⟨#[]⟩ : ByteArray)) := (blk_cell BK107.out 0).trans rfl; have hcz19_1 : w18.cell? ⟨gb107, 1, none⟩ = some (.int .i64 0) := (blk_cell BK107.out 1).trans rfl; have hcz19_2 : w18.cell? ⟨gb107, 2, none⟩ = some (.int .i64 0) := (blk_cell BK107.out 2).trans rfl; have hcz19_3 : w18.cell? ⟨gb107, 3, none⟩ = some (.int .i64 0) := (blk_cell BK107.out 3).trans rfl; have hfz19_0 := blk_frozen BK107.out 0; have hfz19_1 := blk_frozen BK107.out 1; have hfz19_2 := blk_frozen BK107.out 2; have hfz19_3 := blk_frozen BK107.out 3))
           have n0_ : Aside0 (((((w18.setCell ⟨gb107, 0, none⟩ (.string ((rd_T27 l0 x7_1).f0))).setCell ⟨gb107, 1, none⟩ (.int .i64 ((rd_T27 l0 x7_1).f1))).setCell ⟨gb107, 2, none⟩ (.int .i64 ((rd_T27 l0 x7_1).f2))).setCell ⟨gb107, 3, none⟩ (.int .i64 ((rd_T27 l0 x7_1).f3))).heap[gb107]? = some (.cells #[.string ((rd_T27 l0 x7_1).f0), .int .i64 ((rd_T27 l0 x7_1).f1), .int .i64 ((rd_T27 l0 x7_1).f2), .int .i64 ((rd_T27 l0 x7_1).f3)] 27 (0, 0))) := ⟨by (with_reducible repeat (first | refine blk_drewN ?_ _ | refine blk_drew ?_ | refine blk_alloc ?_ _)); refine blk_put (cs := #[.string ((rd_T27 l0 x7_1).f0), .int .i64 ((rd_T27 l0 x7_1).f1), .int .i64 ((rd_T27 l0 x7_1).f2), .int .i64 0]) ?_ 3 _ rfl; (with_reducible repeat (first | refine blk_drewN ?_ _ | refine blk_drew ?_ | refine blk_alloc ?_ _)); refine blk_put (cs := #[.string ((rd_T27 l0 x7_1).f0), .int .i64 ((rd_T27 l0 x7_1).f1), .int .i64 0, .int .i64 0]) ?_ 2 _ rfl; (with_reducible repeat (first | refine blk_drewN ?_ _ | refine blk_drew ?_ | refine blk_alloc ?_ _)); refine blk_put (cs := #[.string ((rd_T27 l0 x7_1).f0), .int .i64 0, .int .i64 0, .int .i64 0]) ?_ 1 _ rfl; (with_reducible repeat (first | refine blk_drewN ?_ _ | refine blk_drew ?_ | refine blk_alloc ?_ _)); refine blk_put (cs := #[.string (⟨#[]⟩ : ByteArray), .int .i64 0, .int .i64 0, .int .i64 0]) ?_ 0 _ rfl; (with_reducible repeat (first | refine blk_drewN ?_ _ | refine blk_drew ?_ | refine blk_alloc ?_ _)); exact BK107.out⟩
           have n1_ : Aside0 (Below w.heap.size w ((((w18.setCell ⟨gb107, 0, none⟩ (.string ((rd_T27 l0 x7_1).f0))).setCell ⟨gb107, 1, none⟩ (.int .i64 ((rd_T27 l0 x7_1).f1))).setCell ⟨gb107, 2, none⟩ (.int .i64 ((rd_T27 l0 x7_1).f2))).setCell ⟨gb107, 3, none⟩ (.int .i64 ((rd_T27 l0 x7_1).f3)))) := ⟨by repeat (first | (with_reducible first | exact HB.out | apply below_alloc | apply pw_below_drewN | apply below_drew1 | refine below_set ?_ GE107.out) | exact HB.out)⟩
           (try clear BK107)
           (try clear HB)
           generalize ((((w18.setCell ⟨gb107, 0, none⟩ (.string ((rd_T27 l0 x7_1).f0))).setCell ⟨gb107, 1, none⟩ (.int .i64 ((rd_T27 l0 x7_1).f1))).setCell ⟨gb107, 2, none⟩ (.int .i64 ((rd_T27 l0 x7_1).f2))).setCell ⟨gb107, 3, none⟩ (.int .i64 ((rd_T27 l0 x7_1).f3))) = w20 at n0_ n1_ ⊢
           have BK107 := n0_
           have HB := n1_
           clear n0_ n1_
           have n0_ := Aside0.mk (blk_drew BK107.out)
           have n1_ := Aside0.mk (below_drew1 HB.out)
           clear BK107
           clear HB
           have BK107 := n0_
           have HB := n1_
           clear n0_ n1_
           refine start_ (n := 41) (S := fun w' => w'.cell? ⟨gb107, 0, none⟩ = some (.string ((rd_T27 l0 x7_1).f0)) ∧ w'.cell? ⟨gb107, 1, none⟩ = some (.int .i64 ((rd_T27 l0 x7_1).f1)) ∧ w'.cell? ⟨gb107, 2, none⟩ = some (.int .i64 ((rd_T27 l0 x7_1).f2)) ∧ w'.cell? ⟨gb107, 3, none⟩ = some (.int .i64 ((rd_T27 l0 x7_1).f3))) (ds := []) x3tr41_0 (by kernel_rfl) rfl rfl ⟨(blk_cell BK107.out 0).trans rfl, (blk_cell BK107.out 1).trans rfl, (blk_cell BK107.out 2).trans rfl, (blk_cell BK107.out 3).trans rfl⟩ (fun hHeld => ?_); refine with_tabW mounts_Right.tab4 mounts_Right.bits4 (fun HT_ HW_ => ?_)
           generalize w20.drew = w21 at BK107 HB hHeld ⊢
           refine pA_ 0 12 x3tr41_1 HT_.out ?_
           refine take_ (i := 1) (N := some 13) (v := ?_) (a' := ?_) x3tr41_2 rfl rfl (take_ofW HT_.out HW_.out (by kernel_rfl)) (fun _ _ _ h => h) (Or.inl ⟨by rfl, ?_⟩) hHeld ?_ ?_
           rotate_left
           ·rintro w' ⟨s0, s1, s2, s3⟩
            go_simp
            with_reducible rfl
           rotate_left
           ·simp only [Act.put, List.setIfInBounds_toArray, List.set_cons_zero, List.set_cons_succ, i64_w, i32_w]
            rfl
           refine one_ (i := 2) (N := some 14) x3tr41_3 rfl rfl (one_of HT_.out (by kernel_rfl)) (by decide) (fun K hK => ?_)
           refine goes_ Try.func23 (by kernel_rfl) rfl #[.string ((rd_T27 l0 x7_1).f0)] (by rfl) rfl rfl (by (try simp only [List.map_toArray, List.map_cons, List.map_nil]); first | done | rfl | (simp only [List.length_drop, List.length_take]; rfl)) ?_
           with_reducible refine (path_Right.calls ((rd_T27 l0 x7_1).f0) true _ A5.out).mono ?_
           rintro e w22 ⟨rfl, hb⟩
           refine ⟨_, rfl, ?_⟩
           have n0_ := Aside0.mk (blk_below (g := gb107) (o := .cells #[.string ((rd_T27 l0 x7_1).f0), .int .i64 ((rd_T27 l0 x7_1).f1), .int .i64 ((rd_T27 l0 x7_1).f2), .int .i64 ((rd_T27 l0 x7_1).f3)] 27 (0, 0)) (by (with_reducible repeat (first | refine blk_drewN ?_ _ | refine blk_drew ?_ | refine blk_alloc ?_ _)); exact BK107.out) hb)
           have n1_ := Aside0.mk (below_step (by repeat (first | (with_reducible first | exact HB.out | apply below_alloc | apply pw_below_drewN | apply below_drew1 | refine below_set ?_ GE107.out) | exact HB.out)) hb)
           clear BK107
           clear HB
           have BK107 := n0_
           have HB := n1_
           clear n0_ n1_
           (try clear hb)
           (try clear hb2)
           (try clear hk)
           (try clear hi)
           refine hK.out _ _ ⟨(blk_cell BK107.out 0).trans rfl, (blk_cell BK107.out 1).trans rfl, (blk_cell BK107.out 2).trans rfl, (blk_cell BK107.out 3).trans rfl⟩ (fun hHeld => ?_)
           clear hK K
           refine norm_ (a' := ?_) ?_ ?_
           rotate_left
           ·show Act.put _ (some 14) _ = _
            simp only [Act.put, List.setIfInBounds_toArray, List.set_cons_zero, List.set_cons_succ, i64_w, i32_w]
            rfl
           refine pA_ 3 15 x3tr41_4 HT_.out ?_
           refine pA_ 4 16 x3tr41_5 HT_.out ?_
           refine pA_ 5 17 x3tr41_6 HT_.out ?_
           refine take_ (i := 6) (N := some 18) (v := ?_) (a' := ?_) x3tr41_7 rfl rfl (take_ofW HT_.out HW_.out (by kernel_rfl)) (fun _ _ _ h => h) (Or.inl ⟨by rfl, ?_⟩) hHeld ?_ ?_
           rotate_left
           ·rintro w' ⟨s0, s1, s2, s3⟩
            go_simp
            with_reducible rfl
           rotate_left
           ·simp only [Act.put, List.setIfInBounds_toArray, List.set_cons_zero, List.set_cons_succ, i64_w, i32_w]
            rfl
           refine one_ (i := 7) (N := some 19) x3tr41_8 rfl rfl (one_of HT_.out (by kernel_rfl)) (by decide) (fun K hK => ?_)
           refine goes_ Try.func24 (by kernel_rfl) rfl #[.int .i64 ((rd_T27 l0 x7_1).f1)] (by rfl) rfl rfl (by (try simp only [List.map_toArray, List.map_cons, List.map_nil]); first | done | rfl | (simp only [List.length_drop, List.length_take]; rfl)) ?_
           with_reducible refine (mounts_group.calls ((rd_T27 l0 x7_1).f1) true _ A7.out).mono ?_
           rintro e w' ⟨rfl, ⟨nd, rfl⟩⟩
           refine ⟨_, rfl, ?_⟩
           refine hK.out _ _ ⟨(blk_cell BK107.out 0).trans rfl, (blk_cell BK107.out 1).trans rfl, (blk_cell BK107.out 2).trans rfl, (blk_cell BK107.out 3).trans rfl⟩ (fun hHeld => ?_)
           clear hK K
           refine norm_ (a' := ?_) ?_ ?_
           rotate_left
           ·show Act.put _ (some 19) _ = _
            simp only [Act.put, List.setIfInBounds_toArray, List.set_cons_zero, List.set_cons_succ, i64_w, i32_w]
            rfl
           refine pA_ 8 20 x3tr41_9 HT_.out ?_
           refine pA_ 9 21 x3tr41_10 HT_.out ?_
           refine pA_ 10 22 x3tr41_11 HT_.out ?_
           refine pA_ 11 23 x3tr41_12 HT_.out ?_
           refine take_ (i := 12) (N := some 24) (v := ?_) (a' := ?_) x3tr41_13 rfl rfl (take_ofW HT_.out HW_.out (by kernel_rfl)) (fun _ _ _ h => h) (Or.inl ⟨by rfl, ?_⟩) hHeld ?_ ?_
           rotate_left
           ·rintro w' ⟨s0, s1, s2, s3⟩
            go_simp
            with_reducible rfl
           rotate_left
           ·simp only [Act.put, List.setIfInBounds_toArray, List.set_cons_zero, List.set_cons_succ, i64_w, i32_w]
            rfl
           refine one_ (i := 13) (N := some 25) x3tr41_14 rfl rfl (one_of HT_.out (by kernel_rfl)) (by decide) (fun K hK => ?_)
           refine goes_ Try.func24 (by kernel_rfl) rfl #[.int .i64 ((rd_T27 l0 x7_1).f3)] (by rfl) rfl rfl (by (try simp only [List.map_toArray, List.map_cons, List.map_nil]); first | done | rfl | (simp only [List.length_drop, List.length_take]; rfl)) ?_
           with_reducible refine (mounts_group.calls ((rd_T27 l0 x7_1).f3) true _ A9.out).mono ?_
           rintro e w' ⟨rfl, ⟨nd, rfl⟩⟩
           refine ⟨_, rfl, ?_⟩
           refine hK.out _ _ ⟨(blk_cell BK107.out 0).trans rfl, (blk_cell BK107.out 1).trans rfl, (blk_cell BK107.out 2).trans rfl, (blk_cell BK107.out 3).trans rfl⟩ (fun hHeld => ?_)
           clear hK K
           refine norm_ (a' := ?_) ?_ ?_
           rotate_left
           ·show Act.put _ (some 25) _ = _
            simp only [Act.put, List.setIfInBounds_toArray, List.set_cons_zero, List.set_cons_succ, i64_w, i32_w]
            rfl
           refine pA_ 14 26 x3tr41_15 HT_.out ?_
           refine pA_ 15 27 x3tr41_16 HT_.out ?_
           refine pA_ 16 28 x3tr41_17 HT_.out ?_
           refine pA_ 17 29 x3tr41_18 HT_.out ?_
           refine take_ (i := 18) (N := some 30) (v := ?_) (a' := ?_) x3tr41_19 rfl rfl (take_ofW HT_.out HW_.out (by kernel_rfl)) (fun _ _ _ h => h) (Or.inl ⟨by rfl, ?_⟩) hHeld ?_ ?_
           rotate_left
           ·rintro w' ⟨s0, s1, s2, s3⟩
            go_simp
            with_reducible rfl
           rotate_left
           ·simp only [Act.put, List.setIfInBounds_toArray, List.set_cons_zero, List.set_cons_succ, i64_w, i32_w]
            rfl
           refine pA_ 19 31 x3tr41_20 HT_.out ?_
           refine pA_ 20 32 x3tr41_21 HT_.out ?_
           refine pA_ 21 33 x3tr41_22 HT_.out ?_
           refine pA_ 22 34 x3tr41_23 HT_.out ?_
           refine take_ (i := 23) (N := some 35) (v := ?_) (a' := ?_) x3tr41_24 rfl rfl (take_ofW HT_.out HW_.out (by kernel_rfl)) (fun _ _ _ h => h) (Or.inl ⟨by rfl, ?_⟩) hHeld ?_ ?_
           rotate_left
           ·rintro w' ⟨s0, s1, s2, s3⟩
            go_simp
            with_reducible rfl
           rotate_left
           ·simp only [Act.put, List.setIfInBounds_toArray, List.set_cons_zero, List.set_cons_succ, i64_w, i32_w]
            rfl
           refine pA_ 24 36 x3tr41_25 HT_.out ?_
           refine pA_ 25 37 x3tr41_26 HT_.out ?_
           refine pA_ 26 38 x3tr41_27 HT_.out ?_
           refine pU_ 27 39 x3tr41_28 HT_.out ?_
           refine pU_ 28 40 x3tr41_29 HT_.out ?_
           refine pU_ 29 41 x3tr41_30 HT_.out ?_
           refine pU_ 30 42 x3tr41_31 HT_.out ?_
           refine pU_ 31 43 x3tr41_32 HT_.out ?_
           refine pU_ 32 44 x3tr41_33 HT_.out ?_
           refine pU_ 33 45 x3tr41_34 HT_.out ?_
           refine pU_ 34 46 x3tr41_35 HT_.out ?_
           refine pU_ 35 47 x3tr41_36 HT_.out ?_
           refine pU_ 36 48 x3tr41_37 HT_.out ?_
           refine pU_ 37 49 x3tr41_38 HT_.out ?_
           refine pU_ 38 50 x3tr41_39 HT_.out ?_
           refine pU_ 39 51 x3tr41_40 HT_.out ?_
           refine pA_ 40 52 x3tr41_41 HT_.out ?_
           refine done_ (done_of HT_.out (by kernel_rfl)) ?_
           try go_wp2
           go_ret
           exact ⟨by first | rfl | (simp [errW_none, errW_some] <;> rfl) | (simp [*, errW_none, errW_some] <;> rfl), by repeat (first | (with_reducible first | exact HB.out | apply below_alloc | apply pw_below_drewN | apply below_drew1 | refine below_set ?_ GE107.out) | exact HB.out)⟩
          ·rw [if_neg c17] at H
           have c17b0 : decide (281474976710656 < ((rd_T27 l0 x7_1).f2)) = false := decide_eq_false c17
           clear c17
           by_cases c23 : x7_1 > 0
           ·rw [if_pos c23] at H
            have c23b0 : decide (0 < x7_1) = true := decide_eq_true c23
            clear c23
            obtain ⟨ji24, hji24⟩ : ∃ j_ : Int, (wrap64 (x7_1 - 1)) = j_ := ⟨_, rfl⟩
            replace H : (if 0 ≤ (ji24) then (if (ji24) < (l0.length : Int) then (if ((Op.bytesLess (((rd_T27 l0 (ji24)).f0).toList) (((rd_T27 l0 x7_1).f0).toList)) = true) then (mounts_Right.l0 k1 l0 l0 (l0.length : Int) (wrap64 (x7_1 + 1))) else (some false)) else (none)) else (none)) = some r := by first | (rw [hji24] at H; exact H) | (simp only [hji24] at H ⊢; exact H)
            (try rw [hji24] at A5)
            (try rw [hji24] at A7)
            (try rw [hji24] at A9)
            have hji24w : (IntKind.i64.wrap (x7_1 - 1)) = ji24 := (i64_w _).trans hji24
            by_cases c25 : 0 ≤ (ji24)
            ·rw [if_pos c25] at H
             have c25b0 : decide (0 ≤ (ji24)) = true := decide_eq_true c25
             clear c25
             by_cases c26 : (ji24) < (l0.length : Int)
             ·rw [if_pos c26] at H
              have c26b0 : decide ((ji24) < (l0.length : Int)) = true := decide_eq_true c26
              clear c26
              by_cases c27 : ((Op.bytesLess (((rd_T27 l0 (ji24)).f0).toList) (((rd_T27 l0 x7_1).f0).toList)) = true)
              ·rw [if_pos c27] at H
               have c27b0 : (Op.bytesLess (((rd_T27 l0 (ji24)).f0).toList) (((rd_T27 l0 x7_1).f0).toList)) = true := c27
               clear c27
               have H' := Aside0.mk H
               clear H
               have p106 : 0 ≤ (x7_1 : Int) := of_decide_eq_true (by first | (with_reducible assumption) | assumption)
               have q106 : x7_1 < (l0.length : Int) := of_decide_eq_true (by first | (with_reducible assumption) | assumption)
               obtain ⟨ad106, e106, hx106_0, hx106_1, hx106_2, hx106_3⟩ := at_T27 HR0.out x7_1 p106 q106
               cases e106
               replace hx106_0 := (HB.out.cell (World.block_lt_of_cell? w _ hx106_0)).trans hx106_0
               replace hx106_1 := (HB.out.cell (World.block_lt_of_cell? w _ hx106_1)).trans hx106_1
               replace hx106_2 := (HB.out.cell (World.block_lt_of_cell? w _ hx106_2)).trans hx106_2
               replace hx106_3 := (HB.out.cell (World.block_lt_of_cell? w _ hx106_3)).trans hx106_3
               replace p106 := eq_true p106
               replace q106 := eq_true q106
               try go_wp2_with (first | ((with_reducible refine gate_dst (N := 4) rfl ?_); (try (refine gate_guard (by rfl) ?_; dsimp only)); refine box_event ?hg (N := 4) ?hd (cs := #[.string (⟨#[]⟩ : ByteArray), .int .i64 0, .int .i64 0, .int .i64 0]) (t := 27) ?hr ?_; (case hd => rfl); (case hg => rfl); (case hr => first | (go_simp; done) | (go_simp; rfl)); intro gb107 hg w28 hbox hb; have n0_ := Aside0.mk (below_step (by repeat (first | (with_reducible first | exact HB.out | apply below_alloc | apply pw_below_drewN | apply below_drew1) | exact HB.out)) hb); have n1_ := Aside0.mk (hbox); have n2_ := Aside0.mk ((by rw [hg]; exact (below_size (by repeat (first | (with_reducible first | exact HB.out | apply below_alloc | apply pw_below_drewN | apply below_drew1) | exact HB.out))) : w.heap.size ≤ gb107)); have n3_ := Aside0.mk ((by rw [hg]; exact (below_size (by repeat (first | (with_reducible first | exact HB.out | apply below_alloc | apply pw_below_drewN | apply below_drew1) | exact HB.out))) : w.heap.size ≤ gb107)); clear HB; have HB := n0_; have BK107 := n1_; have GW107 := n2_; have GE107 := n3_; clear n0_ n1_ n2_ n3_; clear hb hbox hg; have hcz29_0 : w28.cell? ⟨gb107, 0, none⟩ = some (.string (⟨#[]⟩ : ByteArray)) := (blk_cell BK107.out 0).trans rfl; have hcz29_1 : w28.cell? ⟨gb107, 1, none⟩ = some (.int .i64 0) := (blk_cell BK107.out 1).trans rfl; have hcz29_2 : w28.cell? ⟨gb107, 2, none⟩ = some (.int .i64 0) := (blk_cell BK107.out 2).trans rfl; have hcz29_3 : w28.cell? ⟨gb107, 3, none⟩ = some (.int .i64 0) := (blk_cell BK107.out 3).trans rfl; have hfz29_0 := blk_frozen BK107.out 0; have hfz29_1 := blk_frozen BK107.out 1; have hfz29_2 := blk_frozen BK107.out 2; have hfz29_3 := blk_frozen BK107.out 3))
               have n0_ : Aside0 (((((w28.setCell ⟨gb107, 0, none⟩ (.string ((rd_T27 l0 x7_1).f0))).setCell ⟨gb107, 1, none⟩ (.int .i64 ((rd_T27 l0 x7_1).f1))).setCell ⟨gb107, 2, none⟩ (.int .i64 ((rd_T27 l0 x7_1).f2))).setCell ⟨gb107, 3, none⟩ (.int .i64 ((rd_T27 l0 x7_1).f3))).heap[gb107]? = some (.cells #[.string ((rd_T27 l0 x7_1).f0), .int .i64 ((rd_T27 l0 x7_1).f1), .int .i64 ((rd_T27 l0 x7_1).f2), .int .i64 ((rd_T27 l0 x7_1).f3)] 27 (0, 0))) := ⟨by (with_reducible repeat (first | refine blk_drewN ?_ _ | refine blk_drew ?_ | refine blk_alloc ?_ _)); refine blk_put (cs := #[.string ((rd_T27 l0 x7_1).f0), .int .i64 ((rd_T27 l0 x7_1).f1), .int .i64 ((rd_T27 l0 x7_1).f2), .int .i64 0]) ?_ 3 _ rfl; (with_reducible repeat (first | refine blk_drewN ?_ _ | refine blk_drew ?_ | refine blk_alloc ?_ _)); refine blk_put (cs := #[.string ((rd_T27 l0 x7_1).f0), .int .i64 ((rd_T27 l0 x7_1).f1), .int .i64 0, .int .i64 0]) ?_ 2 _ rfl; (with_reducible repeat (first | refine blk_drewN ?_ _ | refine blk_drew ?_ | refine blk_alloc ?_ _)); refine blk_put (cs := #[.string ((rd_T27 l0 x7_1).f0), .int .i64 0, .int .i64 0, .int .i64 0]) ?_ 1 _ rfl; (with_reducible repeat (first | refine blk_drewN ?_ _ | refine blk_drew ?_ | refine blk_alloc ?_ _)); refine blk_put (cs := #[.string (⟨#[]⟩ : ByteArray), .int .i64 0, .int .i64 0, .int .i64 0]) ?_ 0 _ rfl; (with_reducible repeat (first | refine blk_drewN ?_ _ | refine blk_drew ?_ | refine blk_alloc ?_ _)); exact BK107.out⟩
               have n1_ : Aside0 (Below w.heap.size w ((((w28.setCell ⟨gb107, 0, none⟩ (.string ((rd_T27 l0 x7_1).f0))).setCell ⟨gb107, 1, none⟩ (.int .i64 ((rd_T27 l0 x7_1).f1))).setCell ⟨gb107, 2, none⟩ (.int .i64 ((rd_T27 l0 x7_1).f2))).setCell ⟨gb107, 3, none⟩ (.int .i64 ((rd_T27 l0 x7_1).f3)))) := ⟨by repeat (first | (with_reducible first | exact HB.out | apply below_alloc | apply pw_below_drewN | apply below_drew1 | refine below_set ?_ GE107.out) | exact HB.out)⟩
               (try clear BK107)
               (try clear HB)
               generalize ((((w28.setCell ⟨gb107, 0, none⟩ (.string ((rd_T27 l0 x7_1).f0))).setCell ⟨gb107, 1, none⟩ (.int .i64 ((rd_T27 l0 x7_1).f1))).setCell ⟨gb107, 2, none⟩ (.int .i64 ((rd_T27 l0 x7_1).f2))).setCell ⟨gb107, 3, none⟩ (.int .i64 ((rd_T27 l0 x7_1).f3))) = w30 at n0_ n1_ ⊢
               have BK107 := n0_
               have HB := n1_
               clear n0_ n1_
               have n0_ := Aside0.mk (blk_drew BK107.out)
               have n1_ := Aside0.mk (below_drew1 HB.out)
               clear BK107
               clear HB
               have BK107 := n0_
               have HB := n1_
               clear n0_ n1_
               have p111 : 0 ≤ ((ji24) : Int) := of_decide_eq_true (by first | (with_reducible assumption) | assumption)
               have q111 : (ji24) < (l0.length : Int) := of_decide_eq_true (by first | (with_reducible assumption) | assumption)
               obtain ⟨ad111, e111, hx111_0, hx111_1, hx111_2, hx111_3⟩ := at_T27 HR0.out (ji24) p111 q111
               have hw111_3 := hx111_3
               have hw111_2 := hx111_2
               have hw111_1 := hx111_1
               have hw111_0 := hx111_0
               obtain rfl : ad106 = ad111 := (by injection e111)
               replace hx111_0 := (HB.out.cell (World.block_lt_of_cell? w _ hx111_0)).trans hx111_0
               replace hx111_1 := (HB.out.cell (World.block_lt_of_cell? w _ hx111_1)).trans hx111_1
               replace hx111_2 := (HB.out.cell (World.block_lt_of_cell? w _ hx111_2)).trans hx111_2
               replace hx111_3 := (HB.out.cell (World.block_lt_of_cell? w _ hx111_3)).trans hx111_3
               replace p111 := eq_true p111
               replace q111 := eq_true q111
               refine start_ (n := 41) (S := fun w' => w'.cell? ⟨gb107, 0, none⟩ = some (.string ((rd_T27 l0 x7_1).f0)) ∧ w'.cell? ⟨gb107, 1, none⟩ = some (.int .i64 ((rd_T27 l0 x7_1).f1)) ∧ w'.cell? ⟨gb107, 2, none⟩ = some (.int .i64 ((rd_T27 l0 x7_1).f2)) ∧ w'.cell? ⟨gb107, 3, none⟩ = some (.int .i64 ((rd_T27 l0 x7_1).f3)) ∧ w'.cell? (ad106.add (((ji24)).toNat * 4)) = some (.string ((rd_T27 l0 (ji24)).f0)) ∧ w'.cell? ⟨(ad106.add (((ji24)).toNat * 4)).block, (ad106.add (((ji24)).toNat * 4)).off + 1, none⟩ = some (.int .i64 ((rd_T27 l0 (ji24)).f1)) ∧ w'.cell? ⟨(ad106.add (((ji24)).toNat * 4)).block, (ad106.add (((ji24)).toNat * 4)).off + 2, none⟩ = some (.int .i64 ((rd_T27 l0 (ji24)).f2)) ∧ w'.cell? ⟨(ad106.add (((ji24)).toNat * 4)).block, (ad106.add (((ji24)).toNat * 4)).off + 3, none⟩ = some (.int .i64 ((rd_T27 l0 (ji24)).f3))) (ds := []) x3tr41_0 (by kernel_rfl) rfl rfl ⟨(blk_cell BK107.out 0).trans rfl, (blk_cell BK107.out 1).trans rfl, (blk_cell BK107.out 2).trans rfl, (blk_cell BK107.out 3).trans rfl, ((HB.out.cell (World.block_lt_of_cell? w _ hw111_0)).trans hw111_0), ((HB.out.cell (World.block_lt_of_cell? w _ hw111_1)).trans hw111_1), ((HB.out.cell (World.block_lt_of_cell? w _ hw111_2)).trans hw111_2), ((HB.out.cell (World.block_lt_of_cell? w _ hw111_3)).trans hw111_3)⟩ (fun hHeld => ?_); refine with_tabW mounts_Right.tab4 mounts_Right.bits4 (fun HT_ HW_ => ?_)
               generalize w30.drew = w31 at BK107 HB hx111_0 hx111_1 hx111_2 hx111_3 hHeld ⊢
               refine pA_ 0 12 x3tr41_1 HT_.out ?_
               refine take_ (i := 1) (N := some 13) (v := ?_) (a' := ?_) x3tr41_2 rfl rfl (take_ofW HT_.out HW_.out (by kernel_rfl)) (fun _ _ _ h => h) (Or.inl ⟨by rfl, ?_⟩) hHeld ?_ ?_
               rotate_left
               ·rintro w' ⟨s0, s1, s2, s3, s4, s5, s6, s7⟩
                go_simp
                with_reducible rfl
               rotate_left
               ·simp only [Act.put, List.setIfInBounds_toArray, List.set_cons_zero, List.set_cons_succ, i64_w, i32_w]
                rfl
               refine one_ (i := 2) (N := some 14) x3tr41_3 rfl rfl (one_of HT_.out (by kernel_rfl)) (by decide) (fun K hK => ?_)
               refine goes_ Try.func23 (by kernel_rfl) rfl #[.string ((rd_T27 l0 x7_1).f0)] (by rfl) rfl rfl (by (try simp only [List.map_toArray, List.map_cons, List.map_nil]); first | done | rfl | (simp only [List.length_drop, List.length_take]; rfl)) ?_
               with_reducible refine (path_Right.calls ((rd_T27 l0 x7_1).f0) true _ A5.out).mono ?_
               rintro e w32 ⟨rfl, hb⟩
               refine ⟨_, rfl, ?_⟩
               have n0_ := Aside0.mk (blk_below (g := gb107) (o := .cells #[.string ((rd_T27 l0 x7_1).f0), .int .i64 ((rd_T27 l0 x7_1).f1), .int .i64 ((rd_T27 l0 x7_1).f2), .int .i64 ((rd_T27 l0 x7_1).f3)] 27 (0, 0)) (by (with_reducible repeat (first | refine blk_drewN ?_ _ | refine blk_drew ?_ | refine blk_alloc ?_ _)); exact BK107.out) hb)
               have n1_ := Aside0.mk (below_step (by repeat (first | (with_reducible first | exact HB.out | apply below_alloc | apply pw_below_drewN | apply below_drew1 | refine below_set ?_ GE107.out) | exact HB.out)) hb)
               clear BK107
               clear HB
               have BK107 := n0_
               have HB := n1_
               clear n0_ n1_
               (try clear hb)
               (try clear hb2)
               (try clear hk)
               (try clear hi)
               refine hK.out _ _ ⟨(blk_cell BK107.out 0).trans rfl, (blk_cell BK107.out 1).trans rfl, (blk_cell BK107.out 2).trans rfl, (blk_cell BK107.out 3).trans rfl, ((HB.out.cell (World.block_lt_of_cell? w _ hw111_0)).trans hw111_0), ((HB.out.cell (World.block_lt_of_cell? w _ hw111_1)).trans hw111_1), ((HB.out.cell (World.block_lt_of_cell? w _ hw111_2)).trans hw111_2), ((HB.out.cell (World.block_lt_of_cell? w _ hw111_3)).trans hw111_3)⟩ (fun hHeld => ?_)
               clear hK K
               refine norm_ (a' := ?_) ?_ ?_
               rotate_left
               ·show Act.put _ (some 14) _ = _
                simp only [Act.put, List.setIfInBounds_toArray, List.set_cons_zero, List.set_cons_succ, i64_w, i32_w]
                rfl
               refine pA_ 3 15 x3tr41_4 HT_.out ?_
               refine pA_ 4 16 x3tr41_5 HT_.out ?_
               refine pA_ 5 17 x3tr41_6 HT_.out ?_
               refine take_ (i := 6) (N := some 18) (v := ?_) (a' := ?_) x3tr41_7 rfl rfl (take_ofW HT_.out HW_.out (by kernel_rfl)) (fun _ _ _ h => h) (Or.inl ⟨by rfl, ?_⟩) hHeld ?_ ?_
               rotate_left
               ·rintro w' ⟨s0, s1, s2, s3, s4, s5, s6, s7⟩
                go_simp
                with_reducible rfl
               rotate_left
               ·simp only [Act.put, List.setIfInBounds_toArray, List.set_cons_zero, List.set_cons_succ, i64_w, i32_w]
                rfl
               refine one_ (i := 7) (N := some 19) x3tr41_8 rfl rfl (one_of HT_.out (by kernel_rfl)) (by decide) (fun K hK => ?_)
               refine goes_ Try.func24 (by kernel_rfl) rfl #[.int .i64 ((rd_T27 l0 x7_1).f1)] (by rfl) rfl rfl (by (try simp only [List.map_toArray, List.map_cons, List.map_nil]); first | done | rfl | (simp only [List.length_drop, List.length_take]; rfl)) ?_
               with_reducible refine (mounts_group.calls ((rd_T27 l0 x7_1).f1) true _ A7.out).mono ?_
               rintro e w' ⟨rfl, ⟨nd, rfl⟩⟩
               refine ⟨_, rfl, ?_⟩
               refine hK.out _ _ ⟨(blk_cell BK107.out 0).trans rfl, (blk_cell BK107.out 1).trans rfl, (blk_cell BK107.out 2).trans rfl, (blk_cell BK107.out 3).trans rfl, ((HB.out.cell (World.block_lt_of_cell? w _ hw111_0)).trans hw111_0), ((HB.out.cell (World.block_lt_of_cell? w _ hw111_1)).trans hw111_1), ((HB.out.cell (World.block_lt_of_cell? w _ hw111_2)).trans hw111_2), ((HB.out.cell (World.block_lt_of_cell? w _ hw111_3)).trans hw111_3)⟩ (fun hHeld => ?_)
               clear hK K
               refine norm_ (a' := ?_) ?_ ?_
               rotate_left
               ·show Act.put _ (some 19) _ = _
                simp only [Act.put, List.setIfInBounds_toArray, List.set_cons_zero, List.set_cons_succ, i64_w, i32_w]
                rfl
               refine pA_ 8 20 x3tr41_9 HT_.out ?_
               refine pA_ 9 21 x3tr41_10 HT_.out ?_
               refine pA_ 10 22 x3tr41_11 HT_.out ?_
               refine pA_ 11 23 x3tr41_12 HT_.out ?_
               refine take_ (i := 12) (N := some 24) (v := ?_) (a' := ?_) x3tr41_13 rfl rfl (take_ofW HT_.out HW_.out (by kernel_rfl)) (fun _ _ _ h => h) (Or.inl ⟨by rfl, ?_⟩) hHeld ?_ ?_
               rotate_left
               ·rintro w' ⟨s0, s1, s2, s3, s4, s5, s6, s7⟩
                go_simp
                with_reducible rfl
               rotate_left
               ·simp only [Act.put, List.setIfInBounds_toArray, List.set_cons_zero, List.set_cons_succ, i64_w, i32_w]
                rfl
               refine one_ (i := 13) (N := some 25) x3tr41_14 rfl rfl (one_of HT_.out (by kernel_rfl)) (by decide) (fun K hK => ?_)
               refine goes_ Try.func24 (by kernel_rfl) rfl #[.int .i64 ((rd_T27 l0 x7_1).f3)] (by rfl) rfl rfl (by (try simp only [List.map_toArray, List.map_cons, List.map_nil]); first | done | rfl | (simp only [List.length_drop, List.length_take]; rfl)) ?_
               with_reducible refine (mounts_group.calls ((rd_T27 l0 x7_1).f3) true _ A9.out).mono ?_
               rintro e w' ⟨rfl, ⟨nd, rfl⟩⟩
               refine ⟨_, rfl, ?_⟩
               refine hK.out _ _ ⟨(blk_cell BK107.out 0).trans rfl, (blk_cell BK107.out 1).trans rfl, (blk_cell BK107.out 2).trans rfl, (blk_cell BK107.out 3).trans rfl, ((HB.out.cell (World.block_lt_of_cell? w _ hw111_0)).trans hw111_0), ((HB.out.cell (World.block_lt_of_cell? w _ hw111_1)).trans hw111_1), ((HB.out.cell (World.block_lt_of_cell? w _ hw111_2)).trans hw111_2), ((HB.out.cell (World.block_lt_of_cell? w _ hw111_3)).trans hw111_3)⟩ (fun hHeld => ?_)
               clear hK K
               refine norm_ (a' := ?_) ?_ ?_
               rotate_left
               ·show Act.put _ (some 25) _ = _
                simp only [Act.put, List.setIfInBounds_toArray, List.set_cons_zero, List.set_cons_succ, i64_w, i32_w]
                rfl
               refine pA_ 14 26 x3tr41_15 HT_.out ?_
               refine pA_ 15 27 x3tr41_16 HT_.out ?_
               refine pA_ 16 28 x3tr41_17 HT_.out ?_
               refine pA_ 17 29 x3tr41_18 HT_.out ?_
               refine take_ (i := 18) (N := some 30) (v := ?_) (a' := ?_) x3tr41_19 rfl rfl (take_ofW HT_.out HW_.out (by kernel_rfl)) (fun _ _ _ h => h) (Or.inl ⟨by rfl, ?_⟩) hHeld ?_ ?_
               rotate_left
               ·rintro w' ⟨s0, s1, s2, s3, s4, s5, s6, s7⟩
                go_simp
                with_reducible rfl
               rotate_left
               ·simp only [Act.put, List.setIfInBounds_toArray, List.set_cons_zero, List.set_cons_succ, i64_w, i32_w]
                rfl
               refine pA_ 19 31 x3tr41_20 HT_.out ?_
               refine pA_ 20 32 x3tr41_21 HT_.out ?_
               refine pA_ 21 33 x3tr41_22 HT_.out ?_
               refine pA_ 22 34 x3tr41_23 HT_.out ?_
               refine take_ (i := 23) (N := some 35) (v := ?_) (a' := ?_) x3tr41_24 rfl rfl (take_ofW HT_.out HW_.out (by kernel_rfl)) (fun _ _ _ h => h) (Or.inl ⟨by rfl, ?_⟩) hHeld ?_ ?_
               rotate_left
               ·rintro w' ⟨s0, s1, s2, s3, s4, s5, s6, s7⟩
                go_simp
                with_reducible rfl
               rotate_left
               ·simp only [Act.put, List.setIfInBounds_toArray, List.set_cons_zero, List.set_cons_succ, i64_w, i32_w]
                rfl
               refine pA_ 24 36 x3tr41_25 HT_.out ?_
               refine pA_ 25 37 x3tr41_26 HT_.out ?_
               refine pA_ 26 38 x3tr41_27 HT_.out ?_
               refine pA_ 27 39 x3tr41_28 HT_.out ?_
               refine pA_ 28 40 x3tr41_29 HT_.out ?_
               refine pA_ 29 41 x3tr41_30 HT_.out ?_
               refine pA_ 30 42 x3tr41_31 HT_.out ?_
               refine pA_ 31 43 x3tr41_32 HT_.out ?_
               refine pA_ 32 44 x3tr41_33 HT_.out ?_
               refine pA_ 33 45 x3tr41_34 HT_.out ?_
               refine pA_ 34 46 x3tr41_35 HT_.out ?_
               refine pA_ 36 48 x3tr41_m11111111111111111111111111111111111010000 HT_.out ?_
               refine take_ (i := 35) (N := some 47) (v := ?_) (a' := ?_) x3tr41_37 rfl rfl (take_ofW HT_.out HW_.out (by kernel_rfl)) (fun _ _ _ h => h) (Or.inl ⟨by rfl, ?_⟩) hHeld ?_ ?_
               rotate_left
               ·rintro w' ⟨s0, s1, s2, s3, s4, s5, s6, s7⟩
                go_simp
                with_reducible rfl
               rotate_left
               ·simp only [Act.put, List.setIfInBounds_toArray, List.set_cons_zero, List.set_cons_succ, i64_w, i32_w]
                rfl
               refine take_ (i := 37) (N := some 49) (v := ?_) (a' := ?_) x3tr41_38 rfl rfl (take_ofW HT_.out HW_.out (by kernel_rfl)) (fun _ _ _ h => h) (Or.inl ⟨by rfl, ?_⟩) hHeld ?_ ?_
               rotate_left
               ·rintro w' ⟨s0, s1, s2, s3, s4, s5, s6, s7⟩
                go_simp
                with_reducible rfl
               rotate_left
               ·simp only [Act.put, List.setIfInBounds_toArray, List.set_cons_zero, List.set_cons_succ, i64_w, i32_w]
                rfl
               refine pA_ 38 50 x3tr41_39 HT_.out ?_
               refine pA_ 39 51 x3tr41_40 HT_.out ?_
               refine pA_ 40 52 x3tr41_41 HT_.out ?_
               refine done_ (done_of HT_.out (by kernel_rfl)) ?_
               try go_wp2
               go_roundg k1
               case measure => have := HK1.out; omega
               case rel => exact ⟨(wrap64 (x7_1 + 1)), (by first | rfl | (simp; done) | (simp [*]; done)), H', ⟨by have := HK1.out; omega⟩, ⟨by repeat (first | (with_reducible first | exact HB.out | apply below_alloc | apply pw_below_drewN | apply below_drew1 | refine below_set ?_ GE107.out) | exact HB.out)⟩⟩
              ·rw [if_neg c27] at H
               have c27b0 : (Op.bytesLess (((rd_T27 l0 (ji24)).f0).toList) (((rd_T27 l0 x7_1).f0).toList)) = false := by simpa using c27
               clear c27
               obtain rfl := Option.some.inj H
               have p106 : 0 ≤ (x7_1 : Int) := of_decide_eq_true (by first | (with_reducible assumption) | assumption)
               have q106 : x7_1 < (l0.length : Int) := of_decide_eq_true (by first | (with_reducible assumption) | assumption)
               obtain ⟨ad106, e106, hx106_0, hx106_1, hx106_2, hx106_3⟩ := at_T27 HR0.out x7_1 p106 q106
               cases e106
               replace hx106_0 := (HB.out.cell (World.block_lt_of_cell? w _ hx106_0)).trans hx106_0
               replace hx106_1 := (HB.out.cell (World.block_lt_of_cell? w _ hx106_1)).trans hx106_1
               replace hx106_2 := (HB.out.cell (World.block_lt_of_cell? w _ hx106_2)).trans hx106_2
               replace hx106_3 := (HB.out.cell (World.block_lt_of_cell? w _ hx106_3)).trans hx106_3
               replace p106 := eq_true p106
               replace q106 := eq_true q106
               try go_wp2_with (first | ((with_reducible refine gate_dst (N := 4) rfl ?_); (try (refine gate_guard (by rfl) ?_; dsimp only)); refine box_event ?hg (N := 4) ?hd (cs := #[.string (⟨#[]⟩ : ByteArray), .int .i64 0, .int .i64 0, .int .i64 0]) (t := 27) ?hr ?_; (case hd => rfl); (case hg => rfl); (case hr => first | (go_simp; done) | (go_simp; rfl)); intro gb107 hg w33 hbox hb; have n0_ := Aside0.mk (below_step (by repeat (first | (with_reducible first | exact HB.out | apply below_alloc | apply pw_below_drewN | apply below_drew1) | exact HB.out)) hb); have n1_ := Aside0.mk (hbox); have n2_ := Aside0.mk ((by rw [hg]; exact (below_size (by repeat (first | (with_reducible first | exact HB.out | apply below_alloc | apply pw_below_drewN | apply below_drew1) | exact HB.out))) : w.heap.size ≤ gb107)); have n3_ := Aside0.mk ((by rw [hg]; exact (below_size (by repeat (first | (with_reducible first | exact HB.out | apply below_alloc | apply pw_below_drewN | apply below_drew1) | exact HB.out))) : w.heap.size ≤ gb107)); clear HB; have HB := n0_; have BK107 := n1_; have GW107 := n2_; have GE107 := n3_; clear n0_ n1_ n2_ n3_; clear hb hbox hg; have hcz34_0 : w33.cell? ⟨gb107, 0, none⟩ = some (.string (⟨#[]⟩ : ByteArray)) := (blk_cell BK107.out 0).trans rfl; have hcz34_1 : w33.cell? ⟨gb107, 1, none⟩ = some (.int .i64 0) := (blk_cell BK107.out 1).trans rfl; have hcz34_2 : w33.cell? ⟨gb107, 2, none⟩ = some (.int .i64 0) := (blk_cell BK107.out 2).trans rfl; have hcz34_3 : w33.cell? ⟨gb107, 3, none⟩ = some (.int .i64 0) := (blk_cell BK107.out 3).trans rfl; have hfz34_0 := blk_frozen BK107.out 0; have hfz34_1 := blk_frozen BK107.out 1; have hfz34_2 := blk_frozen BK107.out 2; have hfz34_3 := blk_frozen BK107.out 3))
               have n0_ : Aside0 (((((w33.setCell ⟨gb107, 0, none⟩ (.string ((rd_T27 l0 x7_1).f0))).setCell ⟨gb107, 1, none⟩ (.int .i64 ((rd_T27 l0 x7_1).f1))).setCell ⟨gb107, 2, none⟩ (.int .i64 ((rd_T27 l0 x7_1).f2))).setCell ⟨gb107, 3, none⟩ (.int .i64 ((rd_T27 l0 x7_1).f3))).heap[gb107]? = some (.cells #[.string ((rd_T27 l0 x7_1).f0), .int .i64 ((rd_T27 l0 x7_1).f1), .int .i64 ((rd_T27 l0 x7_1).f2), .int .i64 ((rd_T27 l0 x7_1).f3)] 27 (0, 0))) := ⟨by (with_reducible repeat (first | refine blk_drewN ?_ _ | refine blk_drew ?_ | refine blk_alloc ?_ _)); refine blk_put (cs := #[.string ((rd_T27 l0 x7_1).f0), .int .i64 ((rd_T27 l0 x7_1).f1), .int .i64 ((rd_T27 l0 x7_1).f2), .int .i64 0]) ?_ 3 _ rfl; (with_reducible repeat (first | refine blk_drewN ?_ _ | refine blk_drew ?_ | refine blk_alloc ?_ _)); refine blk_put (cs := #[.string ((rd_T27 l0 x7_1).f0), .int .i64 ((rd_T27 l0 x7_1).f1), .int .i64 0, .int .i64 0]) ?_ 2 _ rfl; (with_reducible repeat (first | refine blk_drewN ?_ _ | refine blk_drew ?_ | refine blk_alloc ?_ _)); refine blk_put (cs := #[.string ((rd_T27 l0 x7_1).f0), .int .i64 0, .int .i64 0, .int .i64 0]) ?_ 1 _ rfl; (with_reducible repeat (first | refine blk_drewN ?_ _ | refine blk_drew ?_ | refine blk_alloc ?_ _)); refine blk_put (cs := #[.string (⟨#[]⟩ : ByteArray), .int .i64 0, .int .i64 0, .int .i64 0]) ?_ 0 _ rfl; (with_reducible repeat (first | refine blk_drewN ?_ _ | refine blk_drew ?_ | refine blk_alloc ?_ _)); exact BK107.out⟩
               have n1_ : Aside0 (Below w.heap.size w ((((w33.setCell ⟨gb107, 0, none⟩ (.string ((rd_T27 l0 x7_1).f0))).setCell ⟨gb107, 1, none⟩ (.int .i64 ((rd_T27 l0 x7_1).f1))).setCell ⟨gb107, 2, none⟩ (.int .i64 ((rd_T27 l0 x7_1).f2))).setCell ⟨gb107, 3, none⟩ (.int .i64 ((rd_T27 l0 x7_1).f3)))) := ⟨by repeat (first | (with_reducible first | exact HB.out | apply below_alloc | apply pw_below_drewN | apply below_drew1 | refine below_set ?_ GE107.out) | exact HB.out)⟩
               (try clear BK107)
               (try clear HB)
               generalize ((((w33.setCell ⟨gb107, 0, none⟩ (.string ((rd_T27 l0 x7_1).f0))).setCell ⟨gb107, 1, none⟩ (.int .i64 ((rd_T27 l0 x7_1).f1))).setCell ⟨gb107, 2, none⟩ (.int .i64 ((rd_T27 l0 x7_1).f2))).setCell ⟨gb107, 3, none⟩ (.int .i64 ((rd_T27 l0 x7_1).f3))) = w35 at n0_ n1_ ⊢
               have BK107 := n0_
               have HB := n1_
               clear n0_ n1_
               have n0_ := Aside0.mk (blk_drew BK107.out)
               have n1_ := Aside0.mk (below_drew1 HB.out)
               clear BK107
               clear HB
               have BK107 := n0_
               have HB := n1_
               clear n0_ n1_
               have p111 : 0 ≤ ((ji24) : Int) := of_decide_eq_true (by first | (with_reducible assumption) | assumption)
               have q111 : (ji24) < (l0.length : Int) := of_decide_eq_true (by first | (with_reducible assumption) | assumption)
               obtain ⟨ad111, e111, hx111_0, hx111_1, hx111_2, hx111_3⟩ := at_T27 HR0.out (ji24) p111 q111
               have hw111_3 := hx111_3
               have hw111_2 := hx111_2
               have hw111_1 := hx111_1
               have hw111_0 := hx111_0
               obtain rfl : ad106 = ad111 := (by injection e111)
               replace hx111_0 := (HB.out.cell (World.block_lt_of_cell? w _ hx111_0)).trans hx111_0
               replace hx111_1 := (HB.out.cell (World.block_lt_of_cell? w _ hx111_1)).trans hx111_1
               replace hx111_2 := (HB.out.cell (World.block_lt_of_cell? w _ hx111_2)).trans hx111_2
               replace hx111_3 := (HB.out.cell (World.block_lt_of_cell? w _ hx111_3)).trans hx111_3
               replace p111 := eq_true p111
               replace q111 := eq_true q111
               refine start_ (n := 41) (S := fun w' => w'.cell? ⟨gb107, 0, none⟩ = some (.string ((rd_T27 l0 x7_1).f0)) ∧ w'.cell? ⟨gb107, 1, none⟩ = some (.int .i64 ((rd_T27 l0 x7_1).f1)) ∧ w'.cell? ⟨gb107, 2, none⟩ = some (.int .i64 ((rd_T27 l0 x7_1).f2)) ∧ w'.cell? ⟨gb107, 3, none⟩ = some (.int .i64 ((rd_T27 l0 x7_1).f3)) ∧ w'.cell? (ad106.add (((ji24)).toNat * 4)) = some (.string ((rd_T27 l0 (ji24)).f0)) ∧ w'.cell? ⟨(ad106.add (((ji24)).toNat * 4)).block, (ad106.add (((ji24)).toNat * 4)).off + 1, none⟩ = some (.int .i64 ((rd_T27 l0 (ji24)).f1)) ∧ w'.cell? ⟨(ad106.add (((ji24)).toNat * 4)).block, (ad106.add (((ji24)).toNat * 4)).off + 2, none⟩ = some (.int .i64 ((rd_T27 l0 (ji24)).f2)) ∧ w'.cell? ⟨(ad106.add (((ji24)).toNat * 4)).block, (ad106.add (((ji24)).toNat * 4)).off + 3, none⟩ = some (.int .i64 ((rd_T27 l0 (ji24)).f3))) (ds := []) x3tr41_0 (by kernel_rfl) rfl rfl ⟨(blk_cell BK107.out 0).trans rfl, (blk_cell BK107.out 1).trans rfl, (blk_cell BK107.out 2).trans rfl, (blk_cell BK107.out 3).trans rfl, ((HB.out.cell (World.block_lt_of_cell? w _ hw111_0)).trans hw111_0), ((HB.out.cell (World.block_lt_of_cell? w _ hw111_1)).trans hw111_1), ((HB.out.cell (World.block_lt_of_cell? w _ hw111_2)).trans hw111_2), ((HB.out.cell (World.block_lt_of_cell? w _ hw111_3)).trans hw111_3)⟩ (fun hHeld => ?_); refine with_tabW mounts_Right.tab4 mounts_Right.bits4 (fun HT_ HW_ => ?_)
               generalize w35.drew = w36 at BK107 HB hx111_0 hx111_1 hx111_2 hx111_3 hHeld ⊢
               refine pA_ 0 12 x3tr41_1 HT_.out ?_
               refine take_ (i := 1) (N := some 13) (v := ?_) (a' := ?_) x3tr41_2 rfl rfl (take_ofW HT_.out HW_.out (by kernel_rfl)) (fun _ _ _ h => h) (Or.inl ⟨by rfl, ?_⟩) hHeld ?_ ?_
               rotate_left
               ·rintro w' ⟨s0, s1, s2, s3, s4, s5, s6, s7⟩
                go_simp
                with_reducible rfl
               rotate_left
               ·simp only [Act.put, List.setIfInBounds_toArray, List.set_cons_zero, List.set_cons_succ, i64_w, i32_w]
                rfl
               refine one_ (i := 2) (N := some 14) x3tr41_3 rfl rfl (one_of HT_.out (by kernel_rfl)) (by decide) (fun K hK => ?_)
               refine goes_ Try.func23 (by kernel_rfl) rfl #[.string ((rd_T27 l0 x7_1).f0)] (by rfl) rfl rfl (by (try simp only [List.map_toArray, List.map_cons, List.map_nil]); first | done | rfl | (simp only [List.length_drop, List.length_take]; rfl)) ?_
               with_reducible refine (path_Right.calls ((rd_T27 l0 x7_1).f0) true _ A5.out).mono ?_
               rintro e w37 ⟨rfl, hb⟩
               refine ⟨_, rfl, ?_⟩
               have n0_ := Aside0.mk (blk_below (g := gb107) (o := .cells #[.string ((rd_T27 l0 x7_1).f0), .int .i64 ((rd_T27 l0 x7_1).f1), .int .i64 ((rd_T27 l0 x7_1).f2), .int .i64 ((rd_T27 l0 x7_1).f3)] 27 (0, 0)) (by (with_reducible repeat (first | refine blk_drewN ?_ _ | refine blk_drew ?_ | refine blk_alloc ?_ _)); exact BK107.out) hb)
               have n1_ := Aside0.mk (below_step (by repeat (first | (with_reducible first | exact HB.out | apply below_alloc | apply pw_below_drewN | apply below_drew1 | refine below_set ?_ GE107.out) | exact HB.out)) hb)
               clear BK107
               clear HB
               have BK107 := n0_
               have HB := n1_
               clear n0_ n1_
               (try clear hb)
               (try clear hb2)
               (try clear hk)
               (try clear hi)
               refine hK.out _ _ ⟨(blk_cell BK107.out 0).trans rfl, (blk_cell BK107.out 1).trans rfl, (blk_cell BK107.out 2).trans rfl, (blk_cell BK107.out 3).trans rfl, ((HB.out.cell (World.block_lt_of_cell? w _ hw111_0)).trans hw111_0), ((HB.out.cell (World.block_lt_of_cell? w _ hw111_1)).trans hw111_1), ((HB.out.cell (World.block_lt_of_cell? w _ hw111_2)).trans hw111_2), ((HB.out.cell (World.block_lt_of_cell? w _ hw111_3)).trans hw111_3)⟩ (fun hHeld => ?_)
               clear hK K
               refine norm_ (a' := ?_) ?_ ?_
               rotate_left
               ·show Act.put _ (some 14) _ = _
                simp only [Act.put, List.setIfInBounds_toArray, List.set_cons_zero, List.set_cons_succ, i64_w, i32_w]
                rfl
               refine pA_ 3 15 x3tr41_4 HT_.out ?_
               refine pA_ 4 16 x3tr41_5 HT_.out ?_
               refine pA_ 5 17 x3tr41_6 HT_.out ?_
               refine take_ (i := 6) (N := some 18) (v := ?_) (a' := ?_) x3tr41_7 rfl rfl (take_ofW HT_.out HW_.out (by kernel_rfl)) (fun _ _ _ h => h) (Or.inl ⟨by rfl, ?_⟩) hHeld ?_ ?_
               rotate_left
               ·rintro w' ⟨s0, s1, s2, s3, s4, s5, s6, s7⟩
                go_simp
                with_reducible rfl
               rotate_left
               ·simp only [Act.put, List.setIfInBounds_toArray, List.set_cons_zero, List.set_cons_succ, i64_w, i32_w]
                rfl
               refine one_ (i := 7) (N := some 19) x3tr41_8 rfl rfl (one_of HT_.out (by kernel_rfl)) (by decide) (fun K hK => ?_)
               refine goes_ Try.func24 (by kernel_rfl) rfl #[.int .i64 ((rd_T27 l0 x7_1).f1)] (by rfl) rfl rfl (by (try simp only [List.map_toArray, List.map_cons, List.map_nil]); first | done | rfl | (simp only [List.length_drop, List.length_take]; rfl)) ?_
               with_reducible refine (mounts_group.calls ((rd_T27 l0 x7_1).f1) true _ A7.out).mono ?_
               rintro e w' ⟨rfl, ⟨nd, rfl⟩⟩
               refine ⟨_, rfl, ?_⟩
               refine hK.out _ _ ⟨(blk_cell BK107.out 0).trans rfl, (blk_cell BK107.out 1).trans rfl, (blk_cell BK107.out 2).trans rfl, (blk_cell BK107.out 3).trans rfl, ((HB.out.cell (World.block_lt_of_cell? w _ hw111_0)).trans hw111_0), ((HB.out.cell (World.block_lt_of_cell? w _ hw111_1)).trans hw111_1), ((HB.out.cell (World.block_lt_of_cell? w _ hw111_2)).trans hw111_2), ((HB.out.cell (World.block_lt_of_cell? w _ hw111_3)).trans hw111_3)⟩ (fun hHeld => ?_)
               clear hK K
               refine norm_ (a' := ?_) ?_ ?_
               rotate_left
               ·show Act.put _ (some 19) _ = _
                simp only [Act.put, List.setIfInBounds_toArray, List.set_cons_zero, List.set_cons_succ, i64_w, i32_w]
                rfl
               refine pA_ 8 20 x3tr41_9 HT_.out ?_
               refine pA_ 9 21 x3tr41_10 HT_.out ?_
               refine pA_ 10 22 x3tr41_11 HT_.out ?_
               refine pA_ 11 23 x3tr41_12 HT_.out ?_
               refine take_ (i := 12) (N := some 24) (v := ?_) (a' := ?_) x3tr41_13 rfl rfl (take_ofW HT_.out HW_.out (by kernel_rfl)) (fun _ _ _ h => h) (Or.inl ⟨by rfl, ?_⟩) hHeld ?_ ?_
               rotate_left
               ·rintro w' ⟨s0, s1, s2, s3, s4, s5, s6, s7⟩
                go_simp
                with_reducible rfl
               rotate_left
               ·simp only [Act.put, List.setIfInBounds_toArray, List.set_cons_zero, List.set_cons_succ, i64_w, i32_w]
                rfl
               refine one_ (i := 13) (N := some 25) x3tr41_14 rfl rfl (one_of HT_.out (by kernel_rfl)) (by decide) (fun K hK => ?_)
               refine goes_ Try.func24 (by kernel_rfl) rfl #[.int .i64 ((rd_T27 l0 x7_1).f3)] (by rfl) rfl rfl (by (try simp only [List.map_toArray, List.map_cons, List.map_nil]); first | done | rfl | (simp only [List.length_drop, List.length_take]; rfl)) ?_
               with_reducible refine (mounts_group.calls ((rd_T27 l0 x7_1).f3) true _ A9.out).mono ?_
               rintro e w' ⟨rfl, ⟨nd, rfl⟩⟩
               refine ⟨_, rfl, ?_⟩
               refine hK.out _ _ ⟨(blk_cell BK107.out 0).trans rfl, (blk_cell BK107.out 1).trans rfl, (blk_cell BK107.out 2).trans rfl, (blk_cell BK107.out 3).trans rfl, ((HB.out.cell (World.block_lt_of_cell? w _ hw111_0)).trans hw111_0), ((HB.out.cell (World.block_lt_of_cell? w _ hw111_1)).trans hw111_1), ((HB.out.cell (World.block_lt_of_cell? w _ hw111_2)).trans hw111_2), ((HB.out.cell (World.block_lt_of_cell? w _ hw111_3)).trans hw111_3)⟩ (fun hHeld => ?_)
               clear hK K
               refine norm_ (a' := ?_) ?_ ?_
               rotate_left
               ·show Act.put _ (some 25) _ = _
                simp only [Act.put, List.setIfInBounds_toArray, List.set_cons_zero, List.set_cons_succ, i64_w, i32_w]
                rfl
               refine pA_ 14 26 x3tr41_15 HT_.out ?_
               refine pA_ 15 27 x3tr41_16 HT_.out ?_
               refine pA_ 16 28 x3tr41_17 HT_.out ?_
               refine pA_ 17 29 x3tr41_18 HT_.out ?_
               refine take_ (i := 18) (N := some 30) (v := ?_) (a' := ?_) x3tr41_19 rfl rfl (take_ofW HT_.out HW_.out (by kernel_rfl)) (fun _ _ _ h => h) (Or.inl ⟨by rfl, ?_⟩) hHeld ?_ ?_
               rotate_left
               ·rintro w' ⟨s0, s1, s2, s3, s4, s5, s6, s7⟩
                go_simp
                with_reducible rfl
               rotate_left
               ·simp only [Act.put, List.setIfInBounds_toArray, List.set_cons_zero, List.set_cons_succ, i64_w, i32_w]
                rfl
               refine pA_ 19 31 x3tr41_20 HT_.out ?_
               refine pA_ 20 32 x3tr41_21 HT_.out ?_
               refine pA_ 21 33 x3tr41_22 HT_.out ?_
               refine pA_ 22 34 x3tr41_23 HT_.out ?_
               refine take_ (i := 23) (N := some 35) (v := ?_) (a' := ?_) x3tr41_24 rfl rfl (take_ofW HT_.out HW_.out (by kernel_rfl)) (fun _ _ _ h => h) (Or.inl ⟨by rfl, ?_⟩) hHeld ?_ ?_
               rotate_left
               ·rintro w' ⟨s0, s1, s2, s3, s4, s5, s6, s7⟩
                go_simp
                with_reducible rfl
               rotate_left
               ·simp only [Act.put, List.setIfInBounds_toArray, List.set_cons_zero, List.set_cons_succ, i64_w, i32_w]
                rfl
               refine pA_ 24 36 x3tr41_25 HT_.out ?_
               refine pA_ 25 37 x3tr41_26 HT_.out ?_
               refine pA_ 26 38 x3tr41_27 HT_.out ?_
               refine pA_ 27 39 x3tr41_28 HT_.out ?_
               refine pA_ 28 40 x3tr41_29 HT_.out ?_
               refine pA_ 29 41 x3tr41_30 HT_.out ?_
               refine pA_ 30 42 x3tr41_31 HT_.out ?_
               refine pA_ 31 43 x3tr41_32 HT_.out ?_
               refine pA_ 32 44 x3tr41_33 HT_.out ?_
               refine pA_ 33 45 x3tr41_34 HT_.out ?_
               refine pA_ 34 46 x3tr41_35 HT_.out ?_
               refine pA_ 36 48 x3tr41_m11111111111111111111111111111111111010000 HT_.out ?_
               refine take_ (i := 35) (N := some 47) (v := ?_) (a' := ?_) x3tr41_37 rfl rfl (take_ofW HT_.out HW_.out (by kernel_rfl)) (fun _ _ _ h => h) (Or.inl ⟨by rfl, ?_⟩) hHeld ?_ ?_
               rotate_left
               ·rintro w' ⟨s0, s1, s2, s3, s4, s5, s6, s7⟩
                go_simp
                with_reducible rfl
               rotate_left
               ·simp only [Act.put, List.setIfInBounds_toArray, List.set_cons_zero, List.set_cons_succ, i64_w, i32_w]
                rfl
               refine take_ (i := 37) (N := some 49) (v := ?_) (a' := ?_) x3tr41_38 rfl rfl (take_ofW HT_.out HW_.out (by kernel_rfl)) (fun _ _ _ h => h) (Or.inl ⟨by rfl, ?_⟩) hHeld ?_ ?_
               rotate_left
               ·rintro w' ⟨s0, s1, s2, s3, s4, s5, s6, s7⟩
                go_simp
                with_reducible rfl
               rotate_left
               ·simp only [Act.put, List.setIfInBounds_toArray, List.set_cons_zero, List.set_cons_succ, i64_w, i32_w]
                rfl
               refine pA_ 38 50 x3tr41_39 HT_.out ?_
               refine pA_ 39 51 x3tr41_40 HT_.out ?_
               refine pA_ 40 52 x3tr41_41 HT_.out ?_
               refine done_ (done_of HT_.out (by kernel_rfl)) ?_
               try go_wp2
               go_ret
               exact ⟨by first | rfl | (simp [errW_none, errW_some] <;> rfl) | (simp only [← hji24]; first | rfl | (simp [errW_none, errW_some] <;> rfl)) | (simp [*, errW_none, errW_some] <;> rfl), by repeat (first | (with_reducible first | exact HB.out | apply below_alloc | apply pw_below_drewN | apply below_drew1 | refine below_set ?_ GE107.out) | exact HB.out)⟩
             ·rw [if_neg c26] at H
              exact absurd H (by simp)
            ·rw [if_neg c25] at H
             exact absurd H (by simp)
           ·rw [if_neg c23] at H
            have c23b0 : decide (0 < x7_1) = false := decide_eq_false c23
            clear c23
            have H' := Aside0.mk H
            clear H
            have p106 : 0 ≤ (x7_1 : Int) := of_decide_eq_true (by first | (with_reducible assumption) | assumption)
            have q106 : x7_1 < (l0.length : Int) := of_decide_eq_true (by first | (with_reducible assumption) | assumption)
            obtain ⟨ad106, e106, hx106_0, hx106_1, hx106_2, hx106_3⟩ := at_T27 HR0.out x7_1 p106 q106
            cases e106
            replace hx106_0 := (HB.out.cell (World.block_lt_of_cell? w _ hx106_0)).trans hx106_0
            replace hx106_1 := (HB.out.cell (World.block_lt_of_cell? w _ hx106_1)).trans hx106_1
            replace hx106_2 := (HB.out.cell (World.block_lt_of_cell? w _ hx106_2)).trans hx106_2
            replace hx106_3 := (HB.out.cell (World.block_lt_of_cell? w _ hx106_3)).trans hx106_3
            replace p106 := eq_true p106
            replace q106 := eq_true q106
            try go_wp2_with (first | ((with_reducible refine gate_dst (N := 4) rfl ?_); (try (refine gate_guard (by rfl) ?_; dsimp only)); refine box_event ?hg (N := 4) ?hd (cs := #[.string (⟨#[]⟩ : ByteArray), .int .i64 0, .int .i64 0, .int .i64 0]) (t := 27) ?hr ?_; (case hd => rfl); (case hg => rfl); (case hr => first | (go_simp; done) | (go_simp; rfl)); intro gb107 hg w38 hbox hb; have n0_ := Aside0.mk (below_step (by repeat (first | (with_reducible first | exact HB.out | apply below_alloc | apply pw_below_drewN | apply below_drew1) | exact HB.out)) hb); have n1_ := Aside0.mk (hbox); have n2_ := Aside0.mk ((by rw [hg]; exact (below_size (by repeat (first | (with_reducible first | exact HB.out | apply below_alloc | apply pw_below_drewN | apply below_drew1) | exact HB.out))) : w.heap.size ≤ gb107)); have n3_ := Aside0.mk ((by rw [hg]; exact (below_size (by repeat (first | (with_reducible first | exact HB.out | apply below_alloc | apply pw_below_drewN | apply below_drew1) | exact HB.out))) : w.heap.size ≤ gb107)); clear HB; have HB := n0_; have BK107 := n1_; have GW107 := n2_; have GE107 := n3_; clear n0_ n1_ n2_ n3_; clear hb hbox hg; have hcz39_0 : w38.cell? ⟨gb107, 0, none⟩ = some (.string (⟨#[]⟩ : ByteArray)) := (blk_cell BK107.out 0).trans rfl; have hcz39_1 : w38.cell? ⟨gb107, 1, none⟩ = some (.int .i64 0) := (blk_cell BK107.out 1).trans rfl; have hcz39_2 : w38.cell? ⟨gb107, 2, none⟩ = some (.int .i64 0) := (blk_cell BK107.out 2).trans rfl; have hcz39_3 : w38.cell? ⟨gb107, 3, none⟩ = some (.int .i64 0) := (blk_cell BK107.out 3).trans rfl; have hfz39_0 := blk_frozen BK107.out 0; have hfz39_1 := blk_frozen BK107.out 1; have hfz39_2 := blk_frozen BK107.out 2; have hfz39_3 := blk_frozen BK107.out 3))
            have n0_ : Aside0 (((((w38.setCell ⟨gb107, 0, none⟩ (.string ((rd_T27 l0 x7_1).f0))).setCell ⟨gb107, 1, none⟩ (.int .i64 ((rd_T27 l0 x7_1).f1))).setCell ⟨gb107, 2, none⟩ (.int .i64 ((rd_T27 l0 x7_1).f2))).setCell ⟨gb107, 3, none⟩ (.int .i64 ((rd_T27 l0 x7_1).f3))).heap[gb107]? = some (.cells #[.string ((rd_T27 l0 x7_1).f0), .int .i64 ((rd_T27 l0 x7_1).f1), .int .i64 ((rd_T27 l0 x7_1).f2), .int .i64 ((rd_T27 l0 x7_1).f3)] 27 (0, 0))) := ⟨by (with_reducible repeat (first | refine blk_drewN ?_ _ | refine blk_drew ?_ | refine blk_alloc ?_ _)); refine blk_put (cs := #[.string ((rd_T27 l0 x7_1).f0), .int .i64 ((rd_T27 l0 x7_1).f1), .int .i64 ((rd_T27 l0 x7_1).f2), .int .i64 0]) ?_ 3 _ rfl; (with_reducible repeat (first | refine blk_drewN ?_ _ | refine blk_drew ?_ | refine blk_alloc ?_ _)); refine blk_put (cs := #[.string ((rd_T27 l0 x7_1).f0), .int .i64 ((rd_T27 l0 x7_1).f1), .int .i64 0, .int .i64 0]) ?_ 2 _ rfl; (with_reducible repeat (first | refine blk_drewN ?_ _ | refine blk_drew ?_ | refine blk_alloc ?_ _)); refine blk_put (cs := #[.string ((rd_T27 l0 x7_1).f0), .int .i64 0, .int .i64 0, .int .i64 0]) ?_ 1 _ rfl; (with_reducible repeat (first | refine blk_drewN ?_ _ | refine blk_drew ?_ | refine blk_alloc ?_ _)); refine blk_put (cs := #[.string (⟨#[]⟩ : ByteArray), .int .i64 0, .int .i64 0, .int .i64 0]) ?_ 0 _ rfl; (with_reducible repeat (first | refine blk_drewN ?_ _ | refine blk_drew ?_ | refine blk_alloc ?_ _)); exact BK107.out⟩
            have n1_ : Aside0 (Below w.heap.size w ((((w38.setCell ⟨gb107, 0, none⟩ (.string ((rd_T27 l0 x7_1).f0))).setCell ⟨gb107, 1, none⟩ (.int .i64 ((rd_T27 l0 x7_1).f1))).setCell ⟨gb107, 2, none⟩ (.int .i64 ((rd_T27 l0 x7_1).f2))).setCell ⟨gb107, 3, none⟩ (.int .i64 ((rd_T27 l0 x7_1).f3)))) := ⟨by repeat (first | (with_reducible first | exact HB.out | apply below_alloc | apply pw_below_drewN | apply below_drew1 | refine below_set ?_ GE107.out) | exact HB.out)⟩
            (try clear BK107)
            (try clear HB)
            generalize ((((w38.setCell ⟨gb107, 0, none⟩ (.string ((rd_T27 l0 x7_1).f0))).setCell ⟨gb107, 1, none⟩ (.int .i64 ((rd_T27 l0 x7_1).f1))).setCell ⟨gb107, 2, none⟩ (.int .i64 ((rd_T27 l0 x7_1).f2))).setCell ⟨gb107, 3, none⟩ (.int .i64 ((rd_T27 l0 x7_1).f3))) = w40 at n0_ n1_ ⊢
            have BK107 := n0_
            have HB := n1_
            clear n0_ n1_
            have n0_ := Aside0.mk (blk_drew BK107.out)
            have n1_ := Aside0.mk (below_drew1 HB.out)
            clear BK107
            clear HB
            have BK107 := n0_
            have HB := n1_
            clear n0_ n1_
            refine start_ (n := 41) (S := fun w' => w'.cell? ⟨gb107, 0, none⟩ = some (.string ((rd_T27 l0 x7_1).f0)) ∧ w'.cell? ⟨gb107, 1, none⟩ = some (.int .i64 ((rd_T27 l0 x7_1).f1)) ∧ w'.cell? ⟨gb107, 2, none⟩ = some (.int .i64 ((rd_T27 l0 x7_1).f2)) ∧ w'.cell? ⟨gb107, 3, none⟩ = some (.int .i64 ((rd_T27 l0 x7_1).f3))) (ds := []) x3tr41_0 (by kernel_rfl) rfl rfl ⟨(blk_cell BK107.out 0).trans rfl, (blk_cell BK107.out 1).trans rfl, (blk_cell BK107.out 2).trans rfl, (blk_cell BK107.out 3).trans rfl⟩ (fun hHeld => ?_); refine with_tabW mounts_Right.tab4 mounts_Right.bits4 (fun HT_ HW_ => ?_)
            generalize w40.drew = w41 at BK107 HB hHeld ⊢
            refine pA_ 0 12 x3tr41_1 HT_.out ?_
            refine take_ (i := 1) (N := some 13) (v := ?_) (a' := ?_) x3tr41_2 rfl rfl (take_ofW HT_.out HW_.out (by kernel_rfl)) (fun _ _ _ h => h) (Or.inl ⟨by rfl, ?_⟩) hHeld ?_ ?_
            rotate_left
            ·rintro w' ⟨s0, s1, s2, s3⟩
             go_simp
             with_reducible rfl
            rotate_left
            ·simp only [Act.put, List.setIfInBounds_toArray, List.set_cons_zero, List.set_cons_succ, i64_w, i32_w]
             rfl
            refine one_ (i := 2) (N := some 14) x3tr41_3 rfl rfl (one_of HT_.out (by kernel_rfl)) (by decide) (fun K hK => ?_)
            refine goes_ Try.func23 (by kernel_rfl) rfl #[.string ((rd_T27 l0 x7_1).f0)] (by rfl) rfl rfl (by (try simp only [List.map_toArray, List.map_cons, List.map_nil]); first | done | rfl | (simp only [List.length_drop, List.length_take]; rfl)) ?_
            with_reducible refine (path_Right.calls ((rd_T27 l0 x7_1).f0) true _ A5.out).mono ?_
            rintro e w42 ⟨rfl, hb⟩
            refine ⟨_, rfl, ?_⟩
            have n0_ := Aside0.mk (blk_below (g := gb107) (o := .cells #[.string ((rd_T27 l0 x7_1).f0), .int .i64 ((rd_T27 l0 x7_1).f1), .int .i64 ((rd_T27 l0 x7_1).f2), .int .i64 ((rd_T27 l0 x7_1).f3)] 27 (0, 0)) (by (with_reducible repeat (first | refine blk_drewN ?_ _ | refine blk_drew ?_ | refine blk_alloc ?_ _)); exact BK107.out) hb)
            have n1_ := Aside0.mk (below_step (by repeat (first | (with_reducible first | exact HB.out | apply below_alloc | apply pw_below_drewN | apply below_drew1 | refine below_set ?_ GE107.out) | exact HB.out)) hb)
            clear BK107
            clear HB
            have BK107 := n0_
            have HB := n1_
            clear n0_ n1_
            (try clear hb)
            (try clear hb2)
            (try clear hk)
            (try clear hi)
            refine hK.out _ _ ⟨(blk_cell BK107.out 0).trans rfl, (blk_cell BK107.out 1).trans rfl, (blk_cell BK107.out 2).trans rfl, (blk_cell BK107.out 3).trans rfl⟩ (fun hHeld => ?_)
            clear hK K
            refine norm_ (a' := ?_) ?_ ?_
            rotate_left
            ·show Act.put _ (some 14) _ = _
             simp only [Act.put, List.setIfInBounds_toArray, List.set_cons_zero, List.set_cons_succ, i64_w, i32_w]
             rfl
            refine pA_ 3 15 x3tr41_4 HT_.out ?_
            refine pA_ 4 16 x3tr41_5 HT_.out ?_
            refine pA_ 5 17 x3tr41_6 HT_.out ?_
            refine take_ (i := 6) (N := some 18) (v := ?_) (a' := ?_) x3tr41_7 rfl rfl (take_ofW HT_.out HW_.out (by kernel_rfl)) (fun _ _ _ h => h) (Or.inl ⟨by rfl, ?_⟩) hHeld ?_ ?_
            rotate_left
            ·rintro w' ⟨s0, s1, s2, s3⟩
             go_simp
             with_reducible rfl
            rotate_left
            ·simp only [Act.put, List.setIfInBounds_toArray, List.set_cons_zero, List.set_cons_succ, i64_w, i32_w]
             rfl
            refine one_ (i := 7) (N := some 19) x3tr41_8 rfl rfl (one_of HT_.out (by kernel_rfl)) (by decide) (fun K hK => ?_)
            refine goes_ Try.func24 (by kernel_rfl) rfl #[.int .i64 ((rd_T27 l0 x7_1).f1)] (by rfl) rfl rfl (by (try simp only [List.map_toArray, List.map_cons, List.map_nil]); first | done | rfl | (simp only [List.length_drop, List.length_take]; rfl)) ?_
            with_reducible refine (mounts_group.calls ((rd_T27 l0 x7_1).f1) true _ A7.out).mono ?_
            rintro e w' ⟨rfl, ⟨nd, rfl⟩⟩
            refine ⟨_, rfl, ?_⟩
            refine hK.out _ _ ⟨(blk_cell BK107.out 0).trans rfl, (blk_cell BK107.out 1).trans rfl, (blk_cell BK107.out 2).trans rfl, (blk_cell BK107.out 3).trans rfl⟩ (fun hHeld => ?_)
            clear hK K
            refine norm_ (a' := ?_) ?_ ?_
            rotate_left
            ·show Act.put _ (some 19) _ = _
             simp only [Act.put, List.setIfInBounds_toArray, List.set_cons_zero, List.set_cons_succ, i64_w, i32_w]
             rfl
            refine pA_ 8 20 x3tr41_9 HT_.out ?_
            refine pA_ 9 21 x3tr41_10 HT_.out ?_
            refine pA_ 10 22 x3tr41_11 HT_.out ?_
            refine pA_ 11 23 x3tr41_12 HT_.out ?_
            refine take_ (i := 12) (N := some 24) (v := ?_) (a' := ?_) x3tr41_13 rfl rfl (take_ofW HT_.out HW_.out (by kernel_rfl)) (fun _ _ _ h => h) (Or.inl ⟨by rfl, ?_⟩) hHeld ?_ ?_
            rotate_left
            ·rintro w' ⟨s0, s1, s2, s3⟩
             go_simp
             with_reducible rfl
            rotate_left
            ·simp only [Act.put, List.setIfInBounds_toArray, List.set_cons_zero, List.set_cons_succ, i64_w, i32_w]
             rfl
            refine one_ (i := 13) (N := some 25) x3tr41_14 rfl rfl (one_of HT_.out (by kernel_rfl)) (by decide) (fun K hK => ?_)
            refine goes_ Try.func24 (by kernel_rfl) rfl #[.int .i64 ((rd_T27 l0 x7_1).f3)] (by rfl) rfl rfl (by (try simp only [List.map_toArray, List.map_cons, List.map_nil]); first | done | rfl | (simp only [List.length_drop, List.length_take]; rfl)) ?_
            with_reducible refine (mounts_group.calls ((rd_T27 l0 x7_1).f3) true _ A9.out).mono ?_
            rintro e w' ⟨rfl, ⟨nd, rfl⟩⟩
            refine ⟨_, rfl, ?_⟩
            refine hK.out _ _ ⟨(blk_cell BK107.out 0).trans rfl, (blk_cell BK107.out 1).trans rfl, (blk_cell BK107.out 2).trans rfl, (blk_cell BK107.out 3).trans rfl⟩ (fun hHeld => ?_)
            clear hK K
            refine norm_ (a' := ?_) ?_ ?_
            rotate_left
            ·show Act.put _ (some 25) _ = _
             simp only [Act.put, List.setIfInBounds_toArray, List.set_cons_zero, List.set_cons_succ, i64_w, i32_w]
             rfl
            refine pA_ 14 26 x3tr41_15 HT_.out ?_
            refine pA_ 15 27 x3tr41_16 HT_.out ?_
            refine pA_ 16 28 x3tr41_17 HT_.out ?_
            refine pA_ 17 29 x3tr41_18 HT_.out ?_
            refine take_ (i := 18) (N := some 30) (v := ?_) (a' := ?_) x3tr41_19 rfl rfl (take_ofW HT_.out HW_.out (by kernel_rfl)) (fun _ _ _ h => h) (Or.inl ⟨by rfl, ?_⟩) hHeld ?_ ?_
            rotate_left
            ·rintro w' ⟨s0, s1, s2, s3⟩
             go_simp
             with_reducible rfl
            rotate_left
            ·simp only [Act.put, List.setIfInBounds_toArray, List.set_cons_zero, List.set_cons_succ, i64_w, i32_w]
             rfl
            refine pA_ 19 31 x3tr41_20 HT_.out ?_
            refine pA_ 20 32 x3tr41_21 HT_.out ?_
            refine pA_ 21 33 x3tr41_22 HT_.out ?_
            refine pA_ 22 34 x3tr41_23 HT_.out ?_
            refine take_ (i := 23) (N := some 35) (v := ?_) (a' := ?_) x3tr41_24 rfl rfl (take_ofW HT_.out HW_.out (by kernel_rfl)) (fun _ _ _ h => h) (Or.inl ⟨by rfl, ?_⟩) hHeld ?_ ?_
            rotate_left
            ·rintro w' ⟨s0, s1, s2, s3⟩
             go_simp
             with_reducible rfl
            rotate_left
            ·simp only [Act.put, List.setIfInBounds_toArray, List.set_cons_zero, List.set_cons_succ, i64_w, i32_w]
             rfl
            refine pA_ 24 36 x3tr41_25 HT_.out ?_
            refine pA_ 25 37 x3tr41_26 HT_.out ?_
            refine pA_ 26 38 x3tr41_27 HT_.out ?_
            refine pA_ 27 39 x3tr41_28 HT_.out ?_
            refine pA_ 28 40 x3tr41_29 HT_.out ?_
            refine pA_ 29 41 x3tr41_30 HT_.out ?_
            refine pU_ 30 42 x3tr41_31 HT_.out ?_
            refine pU_ 31 43 x3tr41_32 HT_.out ?_
            refine pU_ 32 44 x3tr41_33 HT_.out ?_
            refine pU_ 33 45 x3tr41_34 HT_.out ?_
            refine pU_ 34 46 x3tr41_35 HT_.out ?_
            refine pU_ 35 47 x3tr41_36 HT_.out ?_
            refine pU_ 36 48 x3tr41_37 HT_.out ?_
            refine pU_ 37 49 x3tr41_38 HT_.out ?_
            refine pU_ 38 50 x3tr41_39 HT_.out ?_
            refine pA_ 39 51 x3tr41_40 HT_.out ?_
            refine pA_ 40 52 x3tr41_41 HT_.out ?_
            refine done_ (done_of HT_.out (by kernel_rfl)) ?_
            try go_wp2
            go_roundg k1
            case measure => have := HK1.out; omega
            case rel => exact ⟨(wrap64 (x7_1 + 1)), (by first | rfl | (simp; done) | (simp [*]; done)), H', ⟨by have := HK1.out; omega⟩, ⟨by repeat (first | (with_reducible first | exact HB.out | apply below_alloc | apply pw_below_drewN | apply below_drew1 | refine below_set ?_ GE107.out) | exact HB.out)⟩⟩
        ·replace c10 := Bool.eq_false_iff.mpr c10
         subst c10
         have H1 : (some false) = some r := by rw [if_neg (show ¬ (false = true) by decide)] at H; exact H
         clear H
         have H := H1
         clear H1
         obtain rfl := Option.some.inj H
         have p106 : 0 ≤ (x7_1 : Int) := of_decide_eq_true (by first | (with_reducible assumption) | assumption)
         have q106 : x7_1 < (l0.length : Int) := of_decide_eq_true (by first | (with_reducible assumption) | assumption)
         obtain ⟨ad106, e106, hx106_0, hx106_1, hx106_2, hx106_3⟩ := at_T27 HR0.out x7_1 p106 q106
         cases e106
         replace hx106_0 := (HB.out.cell (World.block_lt_of_cell? w _ hx106_0)).trans hx106_0
         replace hx106_1 := (HB.out.cell (World.block_lt_of_cell? w _ hx106_1)).trans hx106_1
         replace hx106_2 := (HB.out.cell (World.block_lt_of_cell? w _ hx106_2)).trans hx106_2
         replace hx106_3 := (HB.out.cell (World.block_lt_of_cell? w _ hx106_3)).trans hx106_3
         replace p106 := eq_true p106
         replace q106 := eq_true q106
         try go_wp2_with (first | ((with_reducible refine gate_dst (N := 4) rfl ?_); (try (refine gate_guard (by rfl) ?_; dsimp only)); refine box_event ?hg (N := 4) ?hd (cs := #[.string (⟨#[]⟩ : ByteArray), .int .i64 0, .int .i64 0, .int .i64 0]) (t := 27) ?hr ?_; (case hd => rfl); (case hg => rfl); (case hr => first | (go_simp; done) | (go_simp; rfl)); intro gb107 hg w43 hbox hb; have n0_ := Aside0.mk (below_step (by repeat (first | (with_reducible first | exact HB.out | apply below_alloc | apply pw_below_drewN | apply below_drew1) | exact HB.out)) hb); have n1_ := Aside0.mk (hbox); have n2_ := Aside0.mk ((by rw [hg]; exact (below_size (by repeat (first | (with_reducible first | exact HB.out | apply below_alloc | apply pw_below_drewN | apply below_drew1) | exact HB.out))) : w.heap.size ≤ gb107)); have n3_ := Aside0.mk ((by rw [hg]; exact (below_size (by repeat (first | (with_reducible first | exact HB.out | apply below_alloc | apply pw_below_drewN | apply below_drew1) | exact HB.out))) : w.heap.size ≤ gb107)); clear HB; have HB := n0_; have BK107 := n1_; have GW107 := n2_; have GE107 := n3_; clear n0_ n1_ n2_ n3_; clear hb hbox hg; have hcz44_0 : w43.cell? ⟨gb107, 0, none⟩ = some (.string (⟨#[]⟩ : ByteArray)) := (blk_cell BK107.out 0).trans rfl; have hcz44_1 : w43.cell? ⟨gb107, 1, none⟩ = some (.int .i64 0) := (blk_cell BK107.out 1).trans rfl; have hcz44_2 : w43.cell? ⟨gb107, 2, none⟩ = some (.int .i64 0) := (blk_cell BK107.out 2).trans rfl; have hcz44_3 : w43.cell? ⟨gb107, 3, none⟩ = some (.int .i64 0) := (blk_cell BK107.out 3).trans rfl; have hfz44_0 := blk_frozen BK107.out 0; have hfz44_1 := blk_frozen BK107.out 1; have hfz44_2 := blk_frozen BK107.out 2; have hfz44_3 := blk_frozen BK107.out 3))
         have n0_ : Aside0 (((((w43.setCell ⟨gb107, 0, none⟩ (.string ((rd_T27 l0 x7_1).f0))).setCell ⟨gb107, 1, none⟩ (.int .i64 ((rd_T27 l0 x7_1).f1))).setCell ⟨gb107, 2, none⟩ (.int .i64 ((rd_T27 l0 x7_1).f2))).setCell ⟨gb107, 3, none⟩ (.int .i64 ((rd_T27 l0 x7_1).f3))).heap[gb107]? = some (.cells #[.string ((rd_T27 l0 x7_1).f0), .int .i64 ((rd_T27 l0 x7_1).f1), .int .i64 ((rd_T27 l0 x7_1).f2), .int .i64 ((rd_T27 l0 x7_1).f3)] 27 (0, 0))) := ⟨by (with_reducible repeat (first | refine blk_drewN ?_ _ | refine blk_drew ?_ | refine blk_alloc ?_ _)); refine blk_put (cs := #[.string ((rd_T27 l0 x7_1).f0), .int .i64 ((rd_T27 l0 x7_1).f1), .int .i64 ((rd_T27 l0 x7_1).f2), .int .i64 0]) ?_ 3 _ rfl; (with_reducible repeat (first | refine blk_drewN ?_ _ | refine blk_drew ?_ | refine blk_alloc ?_ _)); refine blk_put (cs := #[.string ((rd_T27 l0 x7_1).f0), .int .i64 ((rd_T27 l0 x7_1).f1), .int .i64 0, .int .i64 0]) ?_ 2 _ rfl; (with_reducible repeat (first | refine blk_drewN ?_ _ | refine blk_drew ?_ | refine blk_alloc ?_ _)); refine blk_put (cs := #[.string ((rd_T27 l0 x7_1).f0), .int .i64 0, .int .i64 0, .int .i64 0]) ?_ 1 _ rfl; (with_reducible repeat (first | refine blk_drewN ?_ _ | refine blk_drew ?_ | refine blk_alloc ?_ _)); refine blk_put (cs := #[.string (⟨#[]⟩ : ByteArray), .int .i64 0, .int .i64 0, .int .i64 0]) ?_ 0 _ rfl; (with_reducible repeat (first | refine blk_drewN ?_ _ | refine blk_drew ?_ | refine blk_alloc ?_ _)); exact BK107.out⟩
         have n1_ : Aside0 (Below w.heap.size w ((((w43.setCell ⟨gb107, 0, none⟩ (.string ((rd_T27 l0 x7_1).f0))).setCell ⟨gb107, 1, none⟩ (.int .i64 ((rd_T27 l0 x7_1).f1))).setCell ⟨gb107, 2, none⟩ (.int .i64 ((rd_T27 l0 x7_1).f2))).setCell ⟨gb107, 3, none⟩ (.int .i64 ((rd_T27 l0 x7_1).f3)))) := ⟨by repeat (first | (with_reducible first | exact HB.out | apply below_alloc | apply pw_below_drewN | apply below_drew1 | refine below_set ?_ GE107.out) | exact HB.out)⟩
         (try clear BK107)
         (try clear HB)
         generalize ((((w43.setCell ⟨gb107, 0, none⟩ (.string ((rd_T27 l0 x7_1).f0))).setCell ⟨gb107, 1, none⟩ (.int .i64 ((rd_T27 l0 x7_1).f1))).setCell ⟨gb107, 2, none⟩ (.int .i64 ((rd_T27 l0 x7_1).f2))).setCell ⟨gb107, 3, none⟩ (.int .i64 ((rd_T27 l0 x7_1).f3))) = w45 at n0_ n1_ ⊢
         have BK107 := n0_
         have HB := n1_
         clear n0_ n1_
         have n0_ := Aside0.mk (blk_drew BK107.out)
         have n1_ := Aside0.mk (below_drew1 HB.out)
         clear BK107
         clear HB
         have BK107 := n0_
         have HB := n1_
         clear n0_ n1_
         refine start_ (n := 41) (S := fun w' => w'.cell? ⟨gb107, 0, none⟩ = some (.string ((rd_T27 l0 x7_1).f0)) ∧ w'.cell? ⟨gb107, 1, none⟩ = some (.int .i64 ((rd_T27 l0 x7_1).f1)) ∧ w'.cell? ⟨gb107, 2, none⟩ = some (.int .i64 ((rd_T27 l0 x7_1).f2)) ∧ w'.cell? ⟨gb107, 3, none⟩ = some (.int .i64 ((rd_T27 l0 x7_1).f3))) (ds := []) x3tr41_0 (by kernel_rfl) rfl rfl ⟨(blk_cell BK107.out 0).trans rfl, (blk_cell BK107.out 1).trans rfl, (blk_cell BK107.out 2).trans rfl, (blk_cell BK107.out 3).trans rfl⟩ (fun hHeld => ?_); refine with_tabW mounts_Right.tab4 mounts_Right.bits4 (fun HT_ HW_ => ?_)
         generalize w45.drew = w46 at BK107 HB hHeld ⊢
         refine pA_ 0 12 x3tr41_1 HT_.out ?_
         refine take_ (i := 1) (N := some 13) (v := ?_) (a' := ?_) x3tr41_2 rfl rfl (take_ofW HT_.out HW_.out (by kernel_rfl)) (fun _ _ _ h => h) (Or.inl ⟨by rfl, ?_⟩) hHeld ?_ ?_
         rotate_left
         ·rintro w' ⟨s0, s1, s2, s3⟩
          go_simp
          with_reducible rfl
         rotate_left
         ·simp only [Act.put, List.setIfInBounds_toArray, List.set_cons_zero, List.set_cons_succ, i64_w, i32_w]
          rfl
         refine one_ (i := 2) (N := some 14) x3tr41_3 rfl rfl (one_of HT_.out (by kernel_rfl)) (by decide) (fun K hK => ?_)
         refine goes_ Try.func23 (by kernel_rfl) rfl #[.string ((rd_T27 l0 x7_1).f0)] (by rfl) rfl rfl (by (try simp only [List.map_toArray, List.map_cons, List.map_nil]); first | done | rfl | (simp only [List.length_drop, List.length_take]; rfl)) ?_
         with_reducible refine (path_Right.calls ((rd_T27 l0 x7_1).f0) true _ A5.out).mono ?_
         rintro e w47 ⟨rfl, hb⟩
         refine ⟨_, rfl, ?_⟩
         have n0_ := Aside0.mk (blk_below (g := gb107) (o := .cells #[.string ((rd_T27 l0 x7_1).f0), .int .i64 ((rd_T27 l0 x7_1).f1), .int .i64 ((rd_T27 l0 x7_1).f2), .int .i64 ((rd_T27 l0 x7_1).f3)] 27 (0, 0)) (by (with_reducible repeat (first | refine blk_drewN ?_ _ | refine blk_drew ?_ | refine blk_alloc ?_ _)); exact BK107.out) hb)
         have n1_ := Aside0.mk (below_step (by repeat (first | (with_reducible first | exact HB.out | apply below_alloc | apply pw_below_drewN | apply below_drew1 | refine below_set ?_ GE107.out) | exact HB.out)) hb)
         clear BK107
         clear HB
         have BK107 := n0_
         have HB := n1_
         clear n0_ n1_
         (try clear hb)
         (try clear hb2)
         (try clear hk)
         (try clear hi)
         refine hK.out _ _ ⟨(blk_cell BK107.out 0).trans rfl, (blk_cell BK107.out 1).trans rfl, (blk_cell BK107.out 2).trans rfl, (blk_cell BK107.out 3).trans rfl⟩ (fun hHeld => ?_)
         clear hK K
         refine norm_ (a' := ?_) ?_ ?_
         rotate_left
         ·show Act.put _ (some 14) _ = _
          simp only [Act.put, List.setIfInBounds_toArray, List.set_cons_zero, List.set_cons_succ, i64_w, i32_w]
          rfl
         refine pA_ 3 15 x3tr41_4 HT_.out ?_
         refine pA_ 4 16 x3tr41_5 HT_.out ?_
         refine pA_ 5 17 x3tr41_6 HT_.out ?_
         refine take_ (i := 6) (N := some 18) (v := ?_) (a' := ?_) x3tr41_7 rfl rfl (take_ofW HT_.out HW_.out (by kernel_rfl)) (fun _ _ _ h => h) (Or.inl ⟨by rfl, ?_⟩) hHeld ?_ ?_
         rotate_left
         ·rintro w' ⟨s0, s1, s2, s3⟩
          go_simp
          with_reducible rfl
         rotate_left
         ·simp only [Act.put, List.setIfInBounds_toArray, List.set_cons_zero, List.set_cons_succ, i64_w, i32_w]
          rfl
         refine one_ (i := 7) (N := some 19) x3tr41_8 rfl rfl (one_of HT_.out (by kernel_rfl)) (by decide) (fun K hK => ?_)
         refine goes_ Try.func24 (by kernel_rfl) rfl #[.int .i64 ((rd_T27 l0 x7_1).f1)] (by rfl) rfl rfl (by (try simp only [List.map_toArray, List.map_cons, List.map_nil]); first | done | rfl | (simp only [List.length_drop, List.length_take]; rfl)) ?_
         with_reducible refine (mounts_group.calls ((rd_T27 l0 x7_1).f1) true _ A7.out).mono ?_
         rintro e w' ⟨rfl, ⟨nd, rfl⟩⟩
         refine ⟨_, rfl, ?_⟩
         refine hK.out _ _ ⟨(blk_cell BK107.out 0).trans rfl, (blk_cell BK107.out 1).trans rfl, (blk_cell BK107.out 2).trans rfl, (blk_cell BK107.out 3).trans rfl⟩ (fun hHeld => ?_)
         clear hK K
         refine norm_ (a' := ?_) ?_ ?_
         rotate_left
         ·show Act.put _ (some 19) _ = _
          simp only [Act.put, List.setIfInBounds_toArray, List.set_cons_zero, List.set_cons_succ, i64_w, i32_w]
          rfl
         refine pA_ 8 20 x3tr41_9 HT_.out ?_
         refine pA_ 9 21 x3tr41_10 HT_.out ?_
         refine pA_ 10 22 x3tr41_11 HT_.out ?_
         refine pA_ 11 23 x3tr41_12 HT_.out ?_
         refine take_ (i := 12) (N := some 24) (v := ?_) (a' := ?_) x3tr41_13 rfl rfl (take_ofW HT_.out HW_.out (by kernel_rfl)) (fun _ _ _ h => h) (Or.inl ⟨by rfl, ?_⟩) hHeld ?_ ?_
         rotate_left
         ·rintro w' ⟨s0, s1, s2, s3⟩
          go_simp
          with_reducible rfl
         rotate_left
         ·simp only [Act.put, List.setIfInBounds_toArray, List.set_cons_zero, List.set_cons_succ, i64_w, i32_w]
          rfl
         refine one_ (i := 13) (N := some 25) x3tr41_14 rfl rfl (one_of HT_.out (by kernel_rfl)) (by decide) (fun K hK => ?_)
         refine goes_ Try.func24 (by kernel_rfl) rfl #[.int .i64 ((rd_T27 l0 x7_1).f3)] (by rfl) rfl rfl (by (try simp only [List.map_toArray, List.map_cons, List.map_nil]); first | done | rfl | (simp only [List.length_drop, List.length_take]; rfl)) ?_
         with_reducible refine (mounts_group.calls ((rd_T27 l0 x7_1).f3) false _ A9.out).mono ?_
         rintro e w' ⟨rfl, ⟨nd, rfl⟩⟩
         refine ⟨_, rfl, ?_⟩
         refine hK.out _ _ ⟨(blk_cell BK107.out 0).trans rfl, (blk_cell BK107.out 1).trans rfl, (blk_cell BK107.out 2).trans rfl, (blk_cell BK107.out 3).trans rfl⟩ (fun hHeld => ?_)
         clear hK K
         refine norm_ (a' := ?_) ?_ ?_
         rotate_left
         ·show Act.put _ (some 25) _ = _
          simp only [Act.put, List.setIfInBounds_toArray, List.set_cons_zero, List.set_cons_succ, i64_w, i32_w]
          rfl
         refine pA_ 14 26 x3tr41_15 HT_.out ?_
         refine pA_ 15 27 x3tr41_16 HT_.out ?_
         refine pA_ 16 28 x3tr41_17 HT_.out ?_
         refine pU_ 17 29 x3tr41_18 HT_.out ?_
         refine pU_ 18 30 x3tr41_19 HT_.out ?_
         refine pU_ 19 31 x3tr41_20 HT_.out ?_
         refine pA_ 20 32 x3tr41_21 HT_.out ?_
         refine pA_ 21 33 x3tr41_22 HT_.out ?_
         refine pU_ 22 34 x3tr41_23 HT_.out ?_
         refine pU_ 23 35 x3tr41_24 HT_.out ?_
         refine pU_ 24 36 x3tr41_25 HT_.out ?_
         refine pA_ 25 37 x3tr41_26 HT_.out ?_
         refine pA_ 26 38 x3tr41_27 HT_.out ?_
         refine pU_ 27 39 x3tr41_28 HT_.out ?_
         refine pU_ 28 40 x3tr41_29 HT_.out ?_
         refine pU_ 29 41 x3tr41_30 HT_.out ?_
         refine pU_ 30 42 x3tr41_31 HT_.out ?_
         refine pU_ 31 43 x3tr41_32 HT_.out ?_
         refine pU_ 32 44 x3tr41_33 HT_.out ?_
         refine pU_ 33 45 x3tr41_34 HT_.out ?_
         refine pU_ 34 46 x3tr41_35 HT_.out ?_
         refine pU_ 35 47 x3tr41_36 HT_.out ?_
         refine pU_ 36 48 x3tr41_37 HT_.out ?_
         refine pU_ 37 49 x3tr41_38 HT_.out ?_
         refine pU_ 38 50 x3tr41_39 HT_.out ?_
         refine pU_ 39 51 x3tr41_40 HT_.out ?_
         refine pA_ 40 52 x3tr41_41 HT_.out ?_
         refine done_ (done_of HT_.out (by kernel_rfl)) ?_
         try go_wp2
         go_ret
         exact ⟨by first | rfl | (simp [errW_none, errW_some] <;> rfl) | (simp [*, errW_none, errW_some] <;> rfl), by repeat (first | (with_reducible first | exact HB.out | apply below_alloc | apply pw_below_drewN | apply below_drew1 | refine below_set ?_ GE107.out) | exact HB.out)⟩
       ·replace c8 := Bool.eq_false_iff.mpr c8
        subst c8
        have H1 : (some false) = some r := by rw [if_neg (show ¬ (false = true) by decide)] at H; exact H
        clear H
        have H := H1
        clear H1
        obtain rfl := Option.some.inj H
        have p106 : 0 ≤ (x7_1 : Int) := of_decide_eq_true (by first | (with_reducible assumption) | assumption)
        have q106 : x7_1 < (l0.length : Int) := of_decide_eq_true (by first | (with_reducible assumption) | assumption)
        obtain ⟨ad106, e106, hx106_0, hx106_1, hx106_2, hx106_3⟩ := at_T27 HR0.out x7_1 p106 q106
        cases e106
        replace hx106_0 := (HB.out.cell (World.block_lt_of_cell? w _ hx106_0)).trans hx106_0
        replace hx106_1 := (HB.out.cell (World.block_lt_of_cell? w _ hx106_1)).trans hx106_1
        replace hx106_2 := (HB.out.cell (World.block_lt_of_cell? w _ hx106_2)).trans hx106_2
        replace hx106_3 := (HB.out.cell (World.block_lt_of_cell? w _ hx106_3)).trans hx106_3
        replace p106 := eq_true p106
        replace q106 := eq_true q106
        try go_wp2_with (first | ((with_reducible refine gate_dst (N := 4) rfl ?_); (try (refine gate_guard (by rfl) ?_; dsimp only)); refine box_event ?hg (N := 4) ?hd (cs := #[.string (⟨#[]⟩ : ByteArray), .int .i64 0, .int .i64 0, .int .i64 0]) (t := 27) ?hr ?_; (case hd => rfl); (case hg => rfl); (case hr => first | (go_simp; done) | (go_simp; rfl)); intro gb107 hg w48 hbox hb; have n0_ := Aside0.mk (below_step (by repeat (first | (with_reducible first | exact HB.out | apply below_alloc | apply pw_below_drewN | apply below_drew1) | exact HB.out)) hb); have n1_ := Aside0.mk (hbox); have n2_ := Aside0.mk ((by rw [hg]; exact (below_size (by repeat (first | (with_reducible first | exact HB.out | apply below_alloc | apply pw_below_drewN | apply below_drew1) | exact HB.out))) : w.heap.size ≤ gb107)); have n3_ := Aside0.mk ((by rw [hg]; exact (below_size (by repeat (first | (with_reducible first | exact HB.out | apply below_alloc | apply pw_below_drewN | apply below_drew1) | exact HB.out))) : w.heap.size ≤ gb107)); clear HB; have HB := n0_; have BK107 := n1_; have GW107 := n2_; have GE107 := n3_; clear n0_ n1_ n2_ n3_; clear hb hbox hg; have hcz49_0 : w48.cell? ⟨gb107, 0, none⟩ = some (.string (⟨#[]⟩ : ByteArray)) := (blk_cell BK107.out 0).trans rfl; have hcz49_1 : w48.cell? ⟨gb107, 1, none⟩ = some (.int .i64 0) := (blk_cell BK107.out 1).trans rfl; have hcz49_2 : w48.cell? ⟨gb107, 2, none⟩ = some (.int .i64 0) := (blk_cell BK107.out 2).trans rfl; have hcz49_3 : w48.cell? ⟨gb107, 3, none⟩ = some (.int .i64 0) := (blk_cell BK107.out 3).trans rfl; have hfz49_0 := blk_frozen BK107.out 0; have hfz49_1 := blk_frozen BK107.out 1; have hfz49_2 := blk_frozen BK107.out 2; have hfz49_3 := blk_frozen BK107.out 3))
        have n0_ : Aside0 (((((w48.setCell ⟨gb107, 0, none⟩ (.string ((rd_T27 l0 x7_1).f0))).setCell ⟨gb107, 1, none⟩ (.int .i64 ((rd_T27 l0 x7_1).f1))).setCell ⟨gb107, 2, none⟩ (.int .i64 ((rd_T27 l0 x7_1).f2))).setCell ⟨gb107, 3, none⟩ (.int .i64 ((rd_T27 l0 x7_1).f3))).heap[gb107]? = some (.cells #[.string ((rd_T27 l0 x7_1).f0), .int .i64 ((rd_T27 l0 x7_1).f1), .int .i64 ((rd_T27 l0 x7_1).f2), .int .i64 ((rd_T27 l0 x7_1).f3)] 27 (0, 0))) := ⟨by (with_reducible repeat (first | refine blk_drewN ?_ _ | refine blk_drew ?_ | refine blk_alloc ?_ _)); refine blk_put (cs := #[.string ((rd_T27 l0 x7_1).f0), .int .i64 ((rd_T27 l0 x7_1).f1), .int .i64 ((rd_T27 l0 x7_1).f2), .int .i64 0]) ?_ 3 _ rfl; (with_reducible repeat (first | refine blk_drewN ?_ _ | refine blk_drew ?_ | refine blk_alloc ?_ _)); refine blk_put (cs := #[.string ((rd_T27 l0 x7_1).f0), .int .i64 ((rd_T27 l0 x7_1).f1), .int .i64 0, .int .i64 0]) ?_ 2 _ rfl; (with_reducible repeat (first | refine blk_drewN ?_ _ | refine blk_drew ?_ | refine blk_alloc ?_ _)); refine blk_put (cs := #[.string ((rd_T27 l0 x7_1).f0), .int .i64 0, .int .i64 0, .int .i64 0]) ?_ 1 _ rfl; (with_reducible repeat (first | refine blk_drewN ?_ _ | refine blk_drew ?_ | refine blk_alloc ?_ _)); refine blk_put (cs := #[.string (⟨#[]⟩ : ByteArray), .int .i64 0, .int .i64 0, .int .i64 0]) ?_ 0 _ rfl; (with_reducible repeat (first | refine blk_drewN ?_ _ | refine blk_drew ?_ | refine blk_alloc ?_ _)); exact BK107.out⟩
        have n1_ : Aside0 (Below w.heap.size w ((((w48.setCell ⟨gb107, 0, none⟩ (.string ((rd_T27 l0 x7_1).f0))).setCell ⟨gb107, 1, none⟩ (.int .i64 ((rd_T27 l0 x7_1).f1))).setCell ⟨gb107, 2, none⟩ (.int .i64 ((rd_T27 l0 x7_1).f2))).setCell ⟨gb107, 3, none⟩ (.int .i64 ((rd_T27 l0 x7_1).f3)))) := ⟨by repeat (first | (with_reducible first | exact HB.out | apply below_alloc | apply pw_below_drewN | apply below_drew1 | refine below_set ?_ GE107.out) | exact HB.out)⟩
        (try clear BK107)
        (try clear HB)
        generalize ((((w48.setCell ⟨gb107, 0, none⟩ (.string ((rd_T27 l0 x7_1).f0))).setCell ⟨gb107, 1, none⟩ (.int .i64 ((rd_T27 l0 x7_1).f1))).setCell ⟨gb107, 2, none⟩ (.int .i64 ((rd_T27 l0 x7_1).f2))).setCell ⟨gb107, 3, none⟩ (.int .i64 ((rd_T27 l0 x7_1).f3))) = w50 at n0_ n1_ ⊢
        have BK107 := n0_
        have HB := n1_
        clear n0_ n1_
        have n0_ := Aside0.mk (blk_drew BK107.out)
        have n1_ := Aside0.mk (below_drew1 HB.out)
        clear BK107
        clear HB
        have BK107 := n0_
        have HB := n1_
        clear n0_ n1_
        refine start_ (n := 41) (S := fun w' => w'.cell? ⟨gb107, 0, none⟩ = some (.string ((rd_T27 l0 x7_1).f0)) ∧ w'.cell? ⟨gb107, 1, none⟩ = some (.int .i64 ((rd_T27 l0 x7_1).f1)) ∧ w'.cell? ⟨gb107, 2, none⟩ = some (.int .i64 ((rd_T27 l0 x7_1).f2)) ∧ w'.cell? ⟨gb107, 3, none⟩ = some (.int .i64 ((rd_T27 l0 x7_1).f3))) (ds := []) x3tr41_0 (by kernel_rfl) rfl rfl ⟨(blk_cell BK107.out 0).trans rfl, (blk_cell BK107.out 1).trans rfl, (blk_cell BK107.out 2).trans rfl, (blk_cell BK107.out 3).trans rfl⟩ (fun hHeld => ?_); refine with_tabW mounts_Right.tab4 mounts_Right.bits4 (fun HT_ HW_ => ?_)
        generalize w50.drew = w51 at BK107 HB hHeld ⊢
        refine pA_ 0 12 x3tr41_1 HT_.out ?_
        refine take_ (i := 1) (N := some 13) (v := ?_) (a' := ?_) x3tr41_2 rfl rfl (take_ofW HT_.out HW_.out (by kernel_rfl)) (fun _ _ _ h => h) (Or.inl ⟨by rfl, ?_⟩) hHeld ?_ ?_
        rotate_left
        ·rintro w' ⟨s0, s1, s2, s3⟩
         go_simp
         with_reducible rfl
        rotate_left
        ·simp only [Act.put, List.setIfInBounds_toArray, List.set_cons_zero, List.set_cons_succ, i64_w, i32_w]
         rfl
        refine one_ (i := 2) (N := some 14) x3tr41_3 rfl rfl (one_of HT_.out (by kernel_rfl)) (by decide) (fun K hK => ?_)
        refine goes_ Try.func23 (by kernel_rfl) rfl #[.string ((rd_T27 l0 x7_1).f0)] (by rfl) rfl rfl (by (try simp only [List.map_toArray, List.map_cons, List.map_nil]); first | done | rfl | (simp only [List.length_drop, List.length_take]; rfl)) ?_
        with_reducible refine (path_Right.calls ((rd_T27 l0 x7_1).f0) true _ A5.out).mono ?_
        rintro e w52 ⟨rfl, hb⟩
        refine ⟨_, rfl, ?_⟩
        have n0_ := Aside0.mk (blk_below (g := gb107) (o := .cells #[.string ((rd_T27 l0 x7_1).f0), .int .i64 ((rd_T27 l0 x7_1).f1), .int .i64 ((rd_T27 l0 x7_1).f2), .int .i64 ((rd_T27 l0 x7_1).f3)] 27 (0, 0)) (by (with_reducible repeat (first | refine blk_drewN ?_ _ | refine blk_drew ?_ | refine blk_alloc ?_ _)); exact BK107.out) hb)
        have n1_ := Aside0.mk (below_step (by repeat (first | (with_reducible first | exact HB.out | apply below_alloc | apply pw_below_drewN | apply below_drew1 | refine below_set ?_ GE107.out) | exact HB.out)) hb)
        clear BK107
        clear HB
        have BK107 := n0_
        have HB := n1_
        clear n0_ n1_
        (try clear hb)
        (try clear hb2)
        (try clear hk)
        (try clear hi)
        refine hK.out _ _ ⟨(blk_cell BK107.out 0).trans rfl, (blk_cell BK107.out 1).trans rfl, (blk_cell BK107.out 2).trans rfl, (blk_cell BK107.out 3).trans rfl⟩ (fun hHeld => ?_)
        clear hK K
        refine norm_ (a' := ?_) ?_ ?_
        rotate_left
        ·show Act.put _ (some 14) _ = _
         simp only [Act.put, List.setIfInBounds_toArray, List.set_cons_zero, List.set_cons_succ, i64_w, i32_w]
         rfl
        refine pA_ 3 15 x3tr41_4 HT_.out ?_
        refine pA_ 4 16 x3tr41_5 HT_.out ?_
        refine pA_ 5 17 x3tr41_6 HT_.out ?_
        refine take_ (i := 6) (N := some 18) (v := ?_) (a' := ?_) x3tr41_7 rfl rfl (take_ofW HT_.out HW_.out (by kernel_rfl)) (fun _ _ _ h => h) (Or.inl ⟨by rfl, ?_⟩) hHeld ?_ ?_
        rotate_left
        ·rintro w' ⟨s0, s1, s2, s3⟩
         go_simp
         with_reducible rfl
        rotate_left
        ·simp only [Act.put, List.setIfInBounds_toArray, List.set_cons_zero, List.set_cons_succ, i64_w, i32_w]
         rfl
        refine one_ (i := 7) (N := some 19) x3tr41_8 rfl rfl (one_of HT_.out (by kernel_rfl)) (by decide) (fun K hK => ?_)
        refine goes_ Try.func24 (by kernel_rfl) rfl #[.int .i64 ((rd_T27 l0 x7_1).f1)] (by rfl) rfl rfl (by (try simp only [List.map_toArray, List.map_cons, List.map_nil]); first | done | rfl | (simp only [List.length_drop, List.length_take]; rfl)) ?_
        with_reducible refine (mounts_group.calls ((rd_T27 l0 x7_1).f1) false _ A7.out).mono ?_
        rintro e w' ⟨rfl, ⟨nd, rfl⟩⟩
        refine ⟨_, rfl, ?_⟩
        refine hK.out _ _ ⟨(blk_cell BK107.out 0).trans rfl, (blk_cell BK107.out 1).trans rfl, (blk_cell BK107.out 2).trans rfl, (blk_cell BK107.out 3).trans rfl⟩ (fun hHeld => ?_)
        clear hK K
        refine norm_ (a' := ?_) ?_ ?_
        rotate_left
        ·show Act.put _ (some 19) _ = _
         simp only [Act.put, List.setIfInBounds_toArray, List.set_cons_zero, List.set_cons_succ, i64_w, i32_w]
         rfl
        refine pA_ 8 20 x3tr41_9 HT_.out ?_
        refine pA_ 9 21 x3tr41_10 HT_.out ?_
        refine pA_ 10 22 x3tr41_11 HT_.out ?_
        refine pU_ 11 23 x3tr41_12 HT_.out ?_
        refine pU_ 12 24 x3tr41_13 HT_.out ?_
        refine pU_ 13 25 x3tr41_14 HT_.out ?_
        refine pU_ 14 26 x3tr41_15 HT_.out ?_
        refine pA_ 15 27 x3tr41_16 HT_.out ?_
        refine pA_ 16 28 x3tr41_17 HT_.out ?_
        refine pU_ 17 29 x3tr41_18 HT_.out ?_
        refine pU_ 18 30 x3tr41_19 HT_.out ?_
        refine pU_ 19 31 x3tr41_20 HT_.out ?_
        refine pA_ 20 32 x3tr41_21 HT_.out ?_
        refine pA_ 21 33 x3tr41_22 HT_.out ?_
        refine pU_ 22 34 x3tr41_23 HT_.out ?_
        refine pU_ 23 35 x3tr41_24 HT_.out ?_
        refine pU_ 24 36 x3tr41_25 HT_.out ?_
        refine pA_ 25 37 x3tr41_26 HT_.out ?_
        refine pA_ 26 38 x3tr41_27 HT_.out ?_
        refine pU_ 27 39 x3tr41_28 HT_.out ?_
        refine pU_ 28 40 x3tr41_29 HT_.out ?_
        refine pU_ 29 41 x3tr41_30 HT_.out ?_
        refine pU_ 30 42 x3tr41_31 HT_.out ?_
        refine pU_ 31 43 x3tr41_32 HT_.out ?_
        refine pU_ 32 44 x3tr41_33 HT_.out ?_
        refine pU_ 33 45 x3tr41_34 HT_.out ?_
        refine pU_ 34 46 x3tr41_35 HT_.out ?_
        refine pU_ 35 47 x3tr41_36 HT_.out ?_
        refine pU_ 36 48 x3tr41_37 HT_.out ?_
        refine pU_ 37 49 x3tr41_38 HT_.out ?_
        refine pU_ 38 50 x3tr41_39 HT_.out ?_
        refine pU_ 39 51 x3tr41_40 HT_.out ?_
        refine pA_ 40 52 x3tr41_41 HT_.out ?_
        refine done_ (done_of HT_.out (by kernel_rfl)) ?_
        try go_wp2
        go_ret
        exact ⟨by first | rfl | (simp [errW_none, errW_some] <;> rfl) | (simp [*, errW_none, errW_some] <;> rfl), by repeat (first | (with_reducible first | exact HB.out | apply below_alloc | apply pw_below_drewN | apply below_drew1 | refine below_set ?_ GE107.out) | exact HB.out)⟩
      ·replace c6 := Bool.eq_false_iff.mpr c6
       subst c6
       have H1 : (some false) = some r := by rw [if_neg (show ¬ (false = true) by decide)] at H; exact H
       clear H
       have H := H1
       clear H1
       obtain rfl := Option.some.inj H
       have p106 : 0 ≤ (x7_1 : Int) := of_decide_eq_true (by first | (with_reducible assumption) | assumption)
       have q106 : x7_1 < (l0.length : Int) := of_decide_eq_true (by first | (with_reducible assumption) | assumption)
       obtain ⟨ad106, e106, hx106_0, hx106_1, hx106_2, hx106_3⟩ := at_T27 HR0.out x7_1 p106 q106
       cases e106
       replace hx106_0 := (HB.out.cell (World.block_lt_of_cell? w _ hx106_0)).trans hx106_0
       replace hx106_1 := (HB.out.cell (World.block_lt_of_cell? w _ hx106_1)).trans hx106_1
       replace hx106_2 := (HB.out.cell (World.block_lt_of_cell? w _ hx106_2)).trans hx106_2
       replace hx106_3 := (HB.out.cell (World.block_lt_of_cell? w _ hx106_3)).trans hx106_3
       replace p106 := eq_true p106
       replace q106 := eq_true q106
       try go_wp2_with (first | ((with_reducible refine gate_dst (N := 4) rfl ?_); (try (refine gate_guard (by rfl) ?_; dsimp only)); refine box_event ?hg (N := 4) ?hd (cs := #[.string (⟨#[]⟩ : ByteArray), .int .i64 0, .int .i64 0, .int .i64 0]) (t := 27) ?hr ?_; (case hd => rfl); (case hg => rfl); (case hr => first | (go_simp; done) | (go_simp; rfl)); intro gb107 hg w53 hbox hb; have n0_ := Aside0.mk (below_step (by repeat (first | (with_reducible first | exact HB.out | apply below_alloc | apply pw_below_drewN | apply below_drew1) | exact HB.out)) hb); have n1_ := Aside0.mk (hbox); have n2_ := Aside0.mk ((by rw [hg]; exact (below_size (by repeat (first | (with_reducible first | exact HB.out | apply below_alloc | apply pw_below_drewN | apply below_drew1) | exact HB.out))) : w.heap.size ≤ gb107)); have n3_ := Aside0.mk ((by rw [hg]; exact (below_size (by repeat (first | (with_reducible first | exact HB.out | apply below_alloc | apply pw_below_drewN | apply below_drew1) | exact HB.out))) : w.heap.size ≤ gb107)); clear HB; have HB := n0_; have BK107 := n1_; have GW107 := n2_; have GE107 := n3_; clear n0_ n1_ n2_ n3_; clear hb hbox hg; have hcz54_0 : w53.cell? ⟨gb107, 0, none⟩ = some (.string (⟨#[]⟩ : ByteArray)) := (blk_cell BK107.out 0).trans rfl; have hcz54_1 : w53.cell? ⟨gb107, 1, none⟩ = some (.int .i64 0) := (blk_cell BK107.out 1).trans rfl; have hcz54_2 : w53.cell? ⟨gb107, 2, none⟩ = some (.int .i64 0) := (blk_cell BK107.out 2).trans rfl; have hcz54_3 : w53.cell? ⟨gb107, 3, none⟩ = some (.int .i64 0) := (blk_cell BK107.out 3).trans rfl; have hfz54_0 := blk_frozen BK107.out 0; have hfz54_1 := blk_frozen BK107.out 1; have hfz54_2 := blk_frozen BK107.out 2; have hfz54_3 := blk_frozen BK107.out 3))
       have n0_ : Aside0 (((((w53.setCell ⟨gb107, 0, none⟩ (.string ((rd_T27 l0 x7_1).f0))).setCell ⟨gb107, 1, none⟩ (.int .i64 ((rd_T27 l0 x7_1).f1))).setCell ⟨gb107, 2, none⟩ (.int .i64 ((rd_T27 l0 x7_1).f2))).setCell ⟨gb107, 3, none⟩ (.int .i64 ((rd_T27 l0 x7_1).f3))).heap[gb107]? = some (.cells #[.string ((rd_T27 l0 x7_1).f0), .int .i64 ((rd_T27 l0 x7_1).f1), .int .i64 ((rd_T27 l0 x7_1).f2), .int .i64 ((rd_T27 l0 x7_1).f3)] 27 (0, 0))) := ⟨by (with_reducible repeat (first | refine blk_drewN ?_ _ | refine blk_drew ?_ | refine blk_alloc ?_ _)); refine blk_put (cs := #[.string ((rd_T27 l0 x7_1).f0), .int .i64 ((rd_T27 l0 x7_1).f1), .int .i64 ((rd_T27 l0 x7_1).f2), .int .i64 0]) ?_ 3 _ rfl; (with_reducible repeat (first | refine blk_drewN ?_ _ | refine blk_drew ?_ | refine blk_alloc ?_ _)); refine blk_put (cs := #[.string ((rd_T27 l0 x7_1).f0), .int .i64 ((rd_T27 l0 x7_1).f1), .int .i64 0, .int .i64 0]) ?_ 2 _ rfl; (with_reducible repeat (first | refine blk_drewN ?_ _ | refine blk_drew ?_ | refine blk_alloc ?_ _)); refine blk_put (cs := #[.string ((rd_T27 l0 x7_1).f0), .int .i64 0, .int .i64 0, .int .i64 0]) ?_ 1 _ rfl; (with_reducible repeat (first | refine blk_drewN ?_ _ | refine blk_drew ?_ | refine blk_alloc ?_ _)); refine blk_put (cs := #[.string (⟨#[]⟩ : ByteArray), .int .i64 0, .int .i64 0, .int .i64 0]) ?_ 0 _ rfl; (with_reducible repeat (first | refine blk_drewN ?_ _ | refine blk_drew ?_ | refine blk_alloc ?_ _)); exact BK107.out⟩
       have n1_ : Aside0 (Below w.heap.size w ((((w53.setCell ⟨gb107, 0, none⟩ (.string ((rd_T27 l0 x7_1).f0))).setCell ⟨gb107, 1, none⟩ (.int .i64 ((rd_T27 l0 x7_1).f1))).setCell ⟨gb107, 2, none⟩ (.int .i64 ((rd_T27 l0 x7_1).f2))).setCell ⟨gb107, 3, none⟩ (.int .i64 ((rd_T27 l0 x7_1).f3)))) := ⟨by repeat (first | (with_reducible first | exact HB.out | apply below_alloc | apply pw_below_drewN | apply below_drew1 | refine below_set ?_ GE107.out) | exact HB.out)⟩
       (try clear BK107)
       (try clear HB)
       generalize ((((w53.setCell ⟨gb107, 0, none⟩ (.string ((rd_T27 l0 x7_1).f0))).setCell ⟨gb107, 1, none⟩ (.int .i64 ((rd_T27 l0 x7_1).f1))).setCell ⟨gb107, 2, none⟩ (.int .i64 ((rd_T27 l0 x7_1).f2))).setCell ⟨gb107, 3, none⟩ (.int .i64 ((rd_T27 l0 x7_1).f3))) = w55 at n0_ n1_ ⊢
       have BK107 := n0_
       have HB := n1_
       clear n0_ n1_
       have n0_ := Aside0.mk (blk_drew BK107.out)
       have n1_ := Aside0.mk (below_drew1 HB.out)
       clear BK107
       clear HB
       have BK107 := n0_
       have HB := n1_
       clear n0_ n1_
       refine start_ (n := 41) (S := fun w' => w'.cell? ⟨gb107, 0, none⟩ = some (.string ((rd_T27 l0 x7_1).f0)) ∧ w'.cell? ⟨gb107, 1, none⟩ = some (.int .i64 ((rd_T27 l0 x7_1).f1)) ∧ w'.cell? ⟨gb107, 2, none⟩ = some (.int .i64 ((rd_T27 l0 x7_1).f2)) ∧ w'.cell? ⟨gb107, 3, none⟩ = some (.int .i64 ((rd_T27 l0 x7_1).f3))) (ds := []) x3tr41_0 (by kernel_rfl) rfl rfl ⟨(blk_cell BK107.out 0).trans rfl, (blk_cell BK107.out 1).trans rfl, (blk_cell BK107.out 2).trans rfl, (blk_cell BK107.out 3).trans rfl⟩ (fun hHeld => ?_); refine with_tabW mounts_Right.tab4 mounts_Right.bits4 (fun HT_ HW_ => ?_)
       generalize w55.drew = w56 at BK107 HB hHeld ⊢
       refine pA_ 0 12 x3tr41_1 HT_.out ?_
       refine take_ (i := 1) (N := some 13) (v := ?_) (a' := ?_) x3tr41_2 rfl rfl (take_ofW HT_.out HW_.out (by kernel_rfl)) (fun _ _ _ h => h) (Or.inl ⟨by rfl, ?_⟩) hHeld ?_ ?_
       rotate_left
       ·rintro w' ⟨s0, s1, s2, s3⟩
        go_simp
        with_reducible rfl
       rotate_left
       ·simp only [Act.put, List.setIfInBounds_toArray, List.set_cons_zero, List.set_cons_succ, i64_w, i32_w]
        rfl
       refine one_ (i := 2) (N := some 14) x3tr41_3 rfl rfl (one_of HT_.out (by kernel_rfl)) (by decide) (fun K hK => ?_)
       refine goes_ Try.func23 (by kernel_rfl) rfl #[.string ((rd_T27 l0 x7_1).f0)] (by rfl) rfl rfl (by (try simp only [List.map_toArray, List.map_cons, List.map_nil]); first | done | rfl | (simp only [List.length_drop, List.length_take]; rfl)) ?_
       with_reducible refine (path_Right.calls ((rd_T27 l0 x7_1).f0) false _ A5.out).mono ?_
       rintro e w57 ⟨rfl, hb⟩
       refine ⟨_, rfl, ?_⟩
       have n0_ := Aside0.mk (blk_below (g := gb107) (o := .cells #[.string ((rd_T27 l0 x7_1).f0), .int .i64 ((rd_T27 l0 x7_1).f1), .int .i64 ((rd_T27 l0 x7_1).f2), .int .i64 ((rd_T27 l0 x7_1).f3)] 27 (0, 0)) (by (with_reducible repeat (first | refine blk_drewN ?_ _ | refine blk_drew ?_ | refine blk_alloc ?_ _)); exact BK107.out) hb)
       have n1_ := Aside0.mk (below_step (by repeat (first | (with_reducible first | exact HB.out | apply below_alloc | apply pw_below_drewN | apply below_drew1 | refine below_set ?_ GE107.out) | exact HB.out)) hb)
       clear BK107
       clear HB
       have BK107 := n0_
       have HB := n1_
       clear n0_ n1_
       (try clear hb)
       (try clear hb2)
       (try clear hk)
       (try clear hi)
       refine hK.out _ _ ⟨(blk_cell BK107.out 0).trans rfl, (blk_cell BK107.out 1).trans rfl, (blk_cell BK107.out 2).trans rfl, (blk_cell BK107.out 3).trans rfl⟩ (fun hHeld => ?_)
       clear hK K
       refine norm_ (a' := ?_) ?_ ?_
       rotate_left
       ·show Act.put _ (some 14) _ = _
        simp only [Act.put, List.setIfInBounds_toArray, List.set_cons_zero, List.set_cons_succ, i64_w, i32_w]
        rfl
       refine pA_ 3 15 x3tr41_4 HT_.out ?_
       refine pA_ 4 16 x3tr41_5 HT_.out ?_
       refine pU_ 5 17 x3tr41_6 HT_.out ?_
       refine pU_ 6 18 x3tr41_7 HT_.out ?_
       refine pU_ 7 19 x3tr41_8 HT_.out ?_
       refine pU_ 8 20 x3tr41_9 HT_.out ?_
       refine pA_ 9 21 x3tr41_10 HT_.out ?_
       refine pA_ 10 22 x3tr41_11 HT_.out ?_
       refine pU_ 11 23 x3tr41_12 HT_.out ?_
       refine pU_ 12 24 x3tr41_13 HT_.out ?_
       refine pU_ 13 25 x3tr41_14 HT_.out ?_
       refine pU_ 14 26 x3tr41_15 HT_.out ?_
       refine pA_ 15 27 x3tr41_16 HT_.out ?_
       refine pA_ 16 28 x3tr41_17 HT_.out ?_
       refine pU_ 17 29 x3tr41_18 HT_.out ?_
       refine pU_ 18 30 x3tr41_19 HT_.out ?_
       refine pU_ 19 31 x3tr41_20 HT_.out ?_
       refine pA_ 20 32 x3tr41_21 HT_.out ?_
       refine pA_ 21 33 x3tr41_22 HT_.out ?_
       refine pU_ 22 34 x3tr41_23 HT_.out ?_
       refine pU_ 23 35 x3tr41_24 HT_.out ?_
       refine pU_ 24 36 x3tr41_25 HT_.out ?_
       refine pA_ 25 37 x3tr41_26 HT_.out ?_
       refine pA_ 26 38 x3tr41_27 HT_.out ?_
       refine pU_ 27 39 x3tr41_28 HT_.out ?_
       refine pU_ 28 40 x3tr41_29 HT_.out ?_
       refine pU_ 29 41 x3tr41_30 HT_.out ?_
       refine pU_ 30 42 x3tr41_31 HT_.out ?_
       refine pU_ 31 43 x3tr41_32 HT_.out ?_
       refine pU_ 32 44 x3tr41_33 HT_.out ?_
       refine pU_ 33 45 x3tr41_34 HT_.out ?_
       refine pU_ 34 46 x3tr41_35 HT_.out ?_
       refine pU_ 35 47 x3tr41_36 HT_.out ?_
       refine pU_ 36 48 x3tr41_37 HT_.out ?_
       refine pU_ 37 49 x3tr41_38 HT_.out ?_
       refine pU_ 38 50 x3tr41_39 HT_.out ?_
       refine pU_ 39 51 x3tr41_40 HT_.out ?_
       refine pA_ 40 52 x3tr41_41 HT_.out ?_
       refine done_ (done_of HT_.out (by kernel_rfl)) ?_
       try go_wp2
       go_ret
       exact ⟨by first | rfl | (simp [errW_none, errW_some] <;> rfl) | (simp [*, errW_none, errW_some] <;> rfl), by repeat (first | (with_reducible first | exact HB.out | apply below_alloc | apply pw_below_drewN | apply below_drew1 | refine below_set ?_ GE107.out) | exact HB.out)⟩
     ·rw [if_neg c4] at H
      exact absurd H (by simp)
    ·rw [if_neg c3] at H
     exact absurd H (by simp)
   ·rw [if_neg c2] at H
    have c2b0 : decide (x7_1 < (l0.length : Int)) = false := decide_eq_false c2
    clear c2
    by_cases c58 : (l0.length : Int) > 0
    ·rw [if_pos c58] at H
     have c58b0 : decide (0 < (l0.length : Int)) = true := decide_eq_true c58
     have c58b1 : decide (0 < l0.length) = true := decide_eq_true (by omega)
     clear c58
     by_cases c59 : (l0.length : Int) ≤ 32
     ·rw [if_pos c59] at H
      have c59b0 : decide ((l0.length : Int) ≤ 32) = true := decide_eq_true c59
      have c59b1 : decide (l0.length ≤ 32) = true := decide_eq_true (by omega)
      clear c59
      by_cases c60 : 0 < (l0.length : Int)
      ·rw [if_pos c60] at H
       have c60b0 : decide (0 < (l0.length : Int)) = true := decide_eq_true c60
       have c60b1 : decide (0 < l0.length) = true := decide_eq_true (by omega)
       clear c60
       obtain rfl := Option.some.inj H
       have p105 : 0 ≤ (0 : Int) := (by omega)
       have q105 : 0 < (l0.length : Int) := of_decide_eq_true (by first | (with_reducible assumption) | assumption)
       obtain ⟨ad105, e105, hx105_0, hx105_1, hx105_2, hx105_3⟩ := at_T27 HR0.out 0 p105 q105
       cases e105
       have qi105 : (0 < l0.length) = True := eq_true (by omega)
       (try rw [show ((0 : Int)).toNat = 0 from rfl] at hx105_0)
       (try rw [show 0 * 4 = 0 from rfl] at hx105_0)
       (try rw [Addr.add_zero'] at hx105_0)
       (try rw [show ((0 : Int)).toNat = 0 from rfl] at hx105_1)
       (try rw [show 0 * 4 = 0 from rfl] at hx105_1)
       (try rw [Addr.add_zero'] at hx105_1)
       (try rw [show ((0 : Int)).toNat = 0 from rfl] at hx105_2)
       (try rw [show 0 * 4 = 0 from rfl] at hx105_2)
       (try rw [Addr.add_zero'] at hx105_2)
       (try rw [show ((0 : Int)).toNat = 0 from rfl] at hx105_3)
       (try rw [show 0 * 4 = 0 from rfl] at hx105_3)
       (try rw [Addr.add_zero'] at hx105_3)
       replace hx105_0 := (HB.out.cell (World.block_lt_of_cell? w _ hx105_0)).trans hx105_0
       replace hx105_1 := (HB.out.cell (World.block_lt_of_cell? w _ hx105_1)).trans hx105_1
       replace hx105_2 := (HB.out.cell (World.block_lt_of_cell? w _ hx105_2)).trans hx105_2
       replace hx105_3 := (HB.out.cell (World.block_lt_of_cell? w _ hx105_3)).trans hx105_3
       replace p105 := eq_true p105
       replace q105 := eq_true q105
       go_wp2
       go_ret
       exact ⟨by first | rfl | (simp [errW_none, errW_some] <;> rfl) | (simp [*, errW_none, errW_some] <;> rfl), by repeat (first | (with_reducible first | exact HB.out | apply below_alloc | apply pw_below_drewN | apply below_drew1) | exact HB.out)⟩
      ·rw [if_neg c60] at H
       exact absurd H (by simp)
     ·rw [if_neg c59] at H
      have c59b0 : decide ((l0.length : Int) ≤ 32) = false := decide_eq_false c59
      have c59b1 : decide (l0.length ≤ 32) = false := decide_eq_false (by omega)
      clear c59
      obtain rfl := Option.some.inj H
      go_wp2
      go_ret
      exact ⟨by first | rfl | (simp [errW_none, errW_some] <;> rfl) | (simp [*, errW_none, errW_some] <;> rfl), by repeat (first | (with_reducible first | exact HB.out | apply below_alloc | apply pw_below_drewN | apply below_drew1) | exact HB.out)⟩
    ·rw [if_neg c58] at H
     have c58b0 : decide (0 < (l0.length : Int)) = false := decide_eq_false c58
     have c58b1 : decide (0 < l0.length) = false := decide_eq_false (by omega)
     clear c58
     obtain rfl := Option.some.inj H
     go_wp2
     go_ret
     exact ⟨by first | rfl | (simp [errW_none, errW_some] <;> rfl) | (simp [*, errW_none, errW_some] <;> rfl), by repeat (first | (with_reducible first | exact HB.out | apply below_alloc | apply pw_below_drewN | apply below_drew1) | exact HB.out)⟩

end Go.Proofs.Ytpkaedpgpncgpaa.Q
