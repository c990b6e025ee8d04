-- Written by a program of this session (xprint) out of the translation; over contracts proved by hand.
import Derived.Test.YtinjajpnbbknnaaQx0
import Derived.Test.YtinjajpnbbknnaaSq
import Derived.Test.YtinjajpnbbknnaaQx9
import Derived.Test.YtinjajpnbbknnaaQx15
namespace Go.Proofs.Ytinjajpnbbknnaa.Cut2
end Go.Proofs.Ytinjajpnbbknnaa.Cut2
namespace Go.Proofs.Ytinjajpnbbknnaa.RPut
end Go.Proofs.Ytinjajpnbbknnaa.RPut
namespace Go.Proofs.Ytinjajpnbbknnaa.Split
end Go.Proofs.Ytinjajpnbbknnaa.Split
namespace Go.Proofs.Ytinjajpnbbknnaa.Q
open Go.Proofs.Ytinjajpnbbknnaa.Cut2 Go.Proofs.Ytinjajpnbbknnaa.RPut Go.Proofs.Ytinjajpnbbknnaa.Split
set_option linter.unnecessarySimpa false
open Go.RowKit Go.Proofs.YtinjajpnbbknnaaW.PrintWords Go.Proofs.YtinjajpnbbknnaaW.PrintLast Go.Proofs.YtinjajpnbbknnaaW.PrintMore
attribute [local go_sem] max2_int min2_int max_two min_two max_three min_three max_four min_four   -- for this text's walks alone
set_option linter.unusedVariables false
set_option linter.unusedSimpArgs false

abbrev x16tr27_0 : Array Bool := trr 27 0
abbrev x16tr27_1 : Array Bool := trr 27 1
abbrev x16tr27_10 : Array Bool := trr 27 10
abbrev x16tr27_11 : Array Bool := trr 27 11
abbrev x16tr27_12 : Array Bool := trr 27 12
abbrev x16tr27_13 : Array Bool := trr 27 13
abbrev x16tr27_14 : Array Bool := trr 27 14
abbrev x16tr27_15 : Array Bool := trr 27 15
abbrev x16tr27_16 : Array Bool := trr 27 16
abbrev x16tr27_17 : Array Bool := trr 27 17
abbrev x16tr27_18 : Array Bool := trr 27 18
abbrev x16tr27_19 : Array Bool := trr 27 19
abbrev x16tr27_20 : Array Bool := trr 27 20
abbrev x16tr27_21 : Array Bool := trr 27 21
abbrev x16tr27_22 : Array Bool := trr 27 22
abbrev x16tr27_23 : Array Bool := trr 27 23
abbrev x16tr27_24 : Array Bool := trr 27 24
abbrev x16tr27_25 : Array Bool := trr 27 25
abbrev x16tr27_26 : Array Bool := trr 27 26
abbrev x16tr27_27 : Array Bool := trr 27 27
abbrev x16tr27_3 : Array Bool := trr 27 3
abbrev x16tr27_4 : Array Bool := trr 27 4
abbrev x16tr27_5 : Array Bool := trr 27 5
abbrev x16tr27_6 : Array Bool := trr 27 6
abbrev x16tr27_7 : Array Bool := trr 27 7
abbrev x16tr27_8 : Array Bool := trr 27 8
abbrev x16tr27_9 : Array Bool := trr 27 9
abbrev x16tr27_m101000000000000000000000000 : Array Bool := #[true, false, true, false, false, false, false, false, false, false, false, false, false, false, false, false, false, false, false, false, false, false, false, false, false, false, false]
abbrev x16tr27_m111111111111010000000000000 : Array Bool := #[true, true, true, true, true, true, true, true, true, true, true, true, false, true, false, false, false, false, false, false, false, false, false, false, false, false, false]
abbrev x16tr27_m111111111111011000000000000 : Array Bool := #[true, true, true, true, true, true, true, true, true, true, true, true, false, true, true, false, false, false, false, false, false, false, false, false, false, false, false]
abbrev x16tr27_m111111111111011000100000000 : Array Bool := #[true, true, true, true, true, true, true, true, true, true, true, true, false, true, true, false, false, false, true, false, false, false, false, false, false, false, false]
abbrev x16tr27_m111111111111011000101000000 : Array Bool := #[true, true, true, true, true, true, true, true, true, true, true, true, false, true, true, false, false, false, true, false, true, false, false, false, false, false, false]
abbrev x16tr27_m111111111111111000101000000 : Array Bool := #[true, true, true, true, true, true, true, true, true, true, true, true, true, true, true, false, false, false, true, false, true, false, false, false, false, false, false]
abbrev x16tr27_m111111111111111100101000000 : Array Bool := #[true, true, true, true, true, true, true, true, true, true, true, true, true, true, true, true, false, false, true, false, true, false, false, false, false, false, false]
abbrev x16tr27_m111111111111111110101000000 : Array Bool := #[true, true, true, true, true, true, true, true, true, true, true, true, true, true, true, true, true, false, true, false, true, false, false, false, false, false, false]
abbrev x16tr27_m111111111111111111101000000 : Array Bool := #[true, true, true, true, true, true, true, true, true, true, true, true, true, true, true, true, true, true, true, false, true, false, false, false, false, false, false]
abbrev x16tr30_0 : Array Bool := trr 30 0
abbrev x16tr30_1 : Array Bool := trr 30 1
abbrev x16tr30_10 : Array Bool := trr 30 10
abbrev x16tr30_11 : Array Bool := trr 30 11
abbrev x16tr30_12 : Array Bool := trr 30 12
abbrev x16tr30_13 : Array Bool := trr 30 13
abbrev x16tr30_14 : Array Bool := trr 30 14
abbrev x16tr30_15 : Array Bool := trr 30 15
abbrev x16tr30_16 : Array Bool := trr 30 16
abbrev x16tr30_17 : Array Bool := trr 30 17
abbrev x16tr30_18 : Array Bool := trr 30 18
abbrev x16tr30_19 : Array Bool := trr 30 19
abbrev x16tr30_2 : Array Bool := trr 30 2
abbrev x16tr30_20 : Array Bool := trr 30 20
abbrev x16tr30_21 : Array Bool := trr 30 21
abbrev x16tr30_22 : Array Bool := trr 30 22
abbrev x16tr30_23 : Array Bool := trr 30 23
abbrev x16tr30_24 : Array Bool := trr 30 24
abbrev x16tr30_25 : Array Bool := trr 30 25
abbrev x16tr30_26 : Array Bool := trr 30 26
abbrev x16tr30_27 : Array Bool := trr 30 27
abbrev x16tr30_28 : Array Bool := trr 30 28
abbrev x16tr30_29 : Array Bool := trr 30 29
abbrev x16tr30_3 : Array Bool := trr 30 3
abbrev x16tr30_30 : Array Bool := trr 30 30
abbrev x16tr30_4 : Array Bool := trr 30 4
abbrev x16tr30_5 : Array Bool := trr 30 5
abbrev x16tr30_6 : Array Bool := trr 30 6
abbrev x16tr30_7 : Array Bool := trr 30 7
abbrev x16tr30_8 : Array Bool := trr 30 8
abbrev x16tr30_9 : Array Bool := trr 30 9
abbrev x16tr30_m111111111111111111101000000000 : Array Bool := #[true, true, true, true, true, true, true, true, true, true, true, true, true, true, true, true, true, true, true, false, true, false, false, false, false, false, false, false, false, false]
abbrev x16tr30_m111111111111111111101100000000 : Array Bool := #[true, true, true, true, true, true, true, true, true, true, true, true, true, true, true, true, true, true, true, false, true, true, false, false, false, false, false, false, false, false]
abbrev x16tr30_m111111111111111111101100010000 : Array Bool := #[true, true, true, true, true, true, true, true, true, true, true, true, true, true, true, true, true, true, true, false, true, true, false, false, false, true, false, false, false, false]
abbrev x16tr30_m111111111111111111111100010000 : Array Bool := #[true, true, true, true, true, true, true, true, true, true, true, true, true, true, true, true, true, true, true, true, true, true, false, false, false, true, false, false, false, false]
abbrev x16tr30_m111111111111111111111110010000 : Array Bool := #[true, true, true, true, true, true, true, true, true, true, true, true, true, true, true, true, true, true, true, true, true, true, true, false, false, true, false, false, false, false]
abbrev x16tr30_m111111111111111111111111010000 : Array Bool := #[true, true, true, true, true, true, true, true, true, true, true, true, true, true, true, true, true, true, true, true, true, true, true, true, false, true, false, false, false, false]
/-! ### cantonref07_Right: function 28 -/
mutual
def cantonref07_Right.l0 : Nat → Int → List (S40) → List (S59) → Option (Bool)
 | 0, _, _, _ => none
 | k + 1, x3, x336000, x336001 => if x3 < (x336000.length : Int) then (if 0 ≤ x3 then ((cantonref07_node.f k ((rd_T40 x336000 x3).f0) ((rd_T40 x336000 x3).f1) ((rd_T40 x336000 x3).f2) ((rd_T40 x336000 x3).f3) ((rd_T40 x336000 x3).f4)).bind fun t337 => (if t337 = true then (if x3 > 0 then (if 0 ≤ (wrap64 (x3 - 1)) then (if (wrap64 (x3 - 1)) < (x336000.length : Int) then (if ((Op.bytesLess (((rd_T40 x336000 (wrap64 (x3 - 1))).f0).toList) (((rd_T40 x336000 x3).f0).toList)) = true) then (cantonref07_Right.l0 k (wrap64 (x3 + 1)) x336000 x336001) else (some false)) else (none)) else (none)) else (cantonref07_Right.l0 k (wrap64 (x3 + 1)) x336000 x336001)) else (some false))) else (none)) else (cantonref07_Right.l1 k 0 x336000 x336001)
def cantonref07_Right.l1 : Nat → Int → List (S40) → List (S59) → Option (Bool)
 | 0, _, _, _ => none
 | k + 1, x4, x336000, x336001 => if x4 < (x336001.length : Int) then (if 0 ≤ x4 then ((cantonref01_Right.f k ((rd_T59 x336001 x4).f0)).bind fun t342 => (if t342 = true then (if ((rd_T59 x336001 x4).f1) < 1 then (some false) else (if ((rd_T59 x336001 x4).f1) > 10000 then (some false) else (if x4 > 0 then (if 0 ≤ (wrap64 (x4 - 1)) then (if (wrap64 (x4 - 1)) < (x336001.length : Int) then (if ((Op.bytesLess (((rd_T59 x336001 (wrap64 (x4 - 1))).f0).toList) (((rd_T59 x336001 x4).f0).toList)) = true) then (cantonref07_Right.l1 k (wrap64 (x4 + 1)) x336000 x336001) else (some false)) else (none)) else (none)) else (cantonref07_Right.l1 k (wrap64 (x4 + 1)) x336000 x336001)))) else (some false))) else (none)) else (some true)
end
def cantonref07_Right.f (k : Nat) (l0_0 : List (S40)) (l0_1 : List (S59)) : Option (Bool) := cantonref07_Right.l0 k 0 l0_0 l0_1
theorem cantonref07_Right.mono_l : ∀ k, (∀ y0 y1 y2, LeO (cantonref07_Right.l0 k y0 y1 y2) (cantonref07_Right.l0 (k + 1) y0 y1 y2)) ∧ (∀ y0 y1 y2, LeO (cantonref07_Right.l1 k y0 y1 y2) (cantonref07_Right.l1 (k + 1) y0 y1 y2))
 | 0 => ⟨fun _ _ _ r h => by simp [cantonref07_Right.l0] at h, fun _ _ _ r h => by simp [cantonref07_Right.l1] at h⟩
 | k + 1 => by
  obtain ⟨ih0, ih1⟩ := cantonref07_Right.mono_l k
  refine ⟨?_, ?_⟩
  ·intro y0 y1 y2
   unfold cantonref07_Right.l0
   repeat' first
   | (with_reducible exact ih0 _ _ _)
   | (with_reducible exact ih1 _ _ _)
   | (with_reducible exact cantonref01_Right.mono _ _)
   | (with_reducible exact cantonref07_node.mono _ _ _ _ _ _)
   | (with_reducible exact LeO.refl _)
   | (with_reducible exact LeO.none _)
   | (with_reducible refine LeO.ite ?_ ?_)
   | (with_reducible refine LeO.bind ?_ (fun _ => ?_))
   | exact ih0 _ _ _
   | exact ih1 _ _ _
   | exact cantonref01_Right.mono _ _
   | exact cantonref07_node.mono _ _ _ _ _ _
   | exact LeO.none _
   | refine LeO.ite ?_ ?_
   | refine LeO.bind ?_ (fun _ => ?_)
  ·intro y0 y1 y2
   unfold cantonref07_Right.l1
   repeat' first
   | (with_reducible exact ih0 _ _ _)
   | (with_reducible exact ih1 _ _ _)
   | (with_reducible exact cantonref01_Right.mono _ _)
   | (with_reducible exact cantonref07_node.mono _ _ _ _ _ _)
   | (with_reducible exact LeO.refl _)
   | (with_reducible exact LeO.none _)
   | (with_reducible refine LeO.ite ?_ ?_)
   | (with_reducible refine LeO.bind ?_ (fun _ => ?_))
   | exact ih0 _ _ _
   | exact ih1 _ _ _
   | exact cantonref01_Right.mono _ _
   | exact cantonref07_node.mono _ _ _ _ _ _
   | exact LeO.none _
   | refine LeO.ite ?_ ?_
   | refine LeO.bind ?_ (fun _ => ?_)
theorem cantonref07_Right.mono : ∀ a0 a1 k, LeO (cantonref07_Right.f k a0 a1) (cantonref07_Right.f (k + 1) a0 a1) := by
 intro a0 a1 k
 obtain ⟨ih0, ih1⟩ := cantonref07_Right.mono_l k
 unfold cantonref07_Right.f
 repeat' first
   | (with_reducible exact ih0 _ _ _)
   | (with_reducible exact ih1 _ _ _)
   | (with_reducible exact cantonref01_Right.mono _ _)
   | (with_reducible exact cantonref07_node.mono _ _ _ _ _ _)
   | (with_reducible exact LeO.refl _)
   | (with_reducible exact LeO.none _)
   | (with_reducible refine LeO.ite ?_ ?_)
   | (with_reducible refine LeO.bind ?_ (fun _ => ?_))
   | exact ih0 _ _ _
   | exact ih1 _ _ _
   | exact cantonref01_Right.mono _ _
   | exact cantonref07_node.mono _ _ _ _ _ _
   | exact LeO.none _
   | refine LeO.ite ?_ ?_
   | refine LeO.bind ?_ (fun _ => ?_)
def cantonref07_Right.T4 : Bool × List (List Nat × List Nat) := (true, [([], []), ([0], [0]), ([], []), ([1, 2], [1, 2]), ([3], [3]), ([4], [4]), ([5], [5]), ([6, 5], [6]), ([7], [7]), ([8, 7], [7, 8]), ([9, 7, 7], [7, 9]), ([10], [10]), ([11, 10], [10, 11]), ([10], [10]), ([13, 10], [10, 13]), ([12, 14, 10], [10, 12, 14]), ([15, 10], [10, 15]), ([16, 10], [10, 16]), ([10], [10]), ([18, 10], [10, 18]), ([10], [10]), ([19, 20, 10], [10, 19, 20]), ([21, 10], [10, 21]), ([22, 10], [10, 22]), ([17, 23, 10], [10, 17, 23]), ([10, 24, 7], [7, 10, 24]), ([7, 25], [7, 25])])
def cantonref07_Right.B4 : List Nat := [0, 1, 0, 7, 15, 31, 63, 127, 255, 511, 1023, 2047, 4095, 2047, 10239, 32767, 65535, 131071, 2047, 264191, 2047, 1837055, 3934207, 8128511, 16777215, 33554431, 67108863]
theorem cantonref07_Right.tab4 : rtab .any (opsOf Try.f28 4) = cantonref07_Right.T4 := by kernel_rfl
theorem cantonref07_Right.bits4 : waitsOk cantonref07_Right.T4.2 cantonref07_Right.B4 = true := by kernel_rfl
def cantonref07_Right.T10 : Bool × List (List Nat × List Nat) := (true, [([], []), ([0], [0]), ([1], [1]), ([2], [2]), ([3, 2], [3]), ([4], [4]), ([5, 4], [4, 5]), ([6, 4], [4, 6]), ([4, 7], [4, 7]), ([8, 4], [8]), ([9], [9]), ([10, 9], [9, 10]), ([11, 9], [9, 11]), ([9, 12], [9, 12]), ([13, 9], [13]), ([14], [14]), ([15, 14], [14, 15]), ([16, 14, 14], [14, 16]), ([17], [17]), ([18, 17], [17, 18]), ([17], [17]), ([20, 17], [17, 20]), ([19, 21, 17], [17, 19, 21]), ([22, 17], [17, 22]), ([23, 17], [17, 23]), ([17], [17]), ([25, 17], [17, 25]), ([24, 26, 17], [17, 24, 26]), ([17, 27, 14], [14, 17, 27]), ([14, 28], [14, 28])])
def cantonref07_Right.B10 : List Nat := [0, 1, 3, 7, 15, 31, 63, 127, 255, 511, 1023, 2047, 4095, 8191, 16383, 32767, 65535, 131071, 262143, 524287, 262143, 1310719, 4194303, 8388607, 16777215, 262143, 33816575, 134217727, 268435455, 536870911]
theorem cantonref07_Right.tab10 : rtab .any (opsOf Try.f28 10) = cantonref07_Right.T10 := by kernel_rfl
theorem cantonref07_Right.bits10 : waitsOk cantonref07_Right.T10.2 cantonref07_Right.B10 = true := by kernel_rfl
set_option maxHeartbeats 8000000 in
set_option maxRecDepth 100000 in
theorem cantonref07_Right.calls (k : Nat) (A0_0 : Option Addr) (c0_0 : Nat) (l0_0 : List (S40)) (A0_1 : Option Addr) (c0_1 : Nat) (l0_1 : List (S59)) (r : Bool) (w : World) (hr0_0 : Kd.C k40 w A0_0 l0_0.length l0_0) (hc0_0 : l0_0.length ≤ c0_0) (hr0_1 : Kd.C k59 w A0_1 l0_1.length l0_1) (hc0_1 : l0_1.length ≤ c0_1) (h : cantonref07_Right.f k l0_0 l0_1 = some r) :
  Calls Try.prog 28 #[.agg #[.slice A0_0 l0_0.length c0_0, .slice A0_1 l0_1.length c0_1]] w fun e w' => e = .returned (.bool r) ∧ Below w.heap.size w w' := by
 have hu34 := Try.underlying34
 have hu40 := Try.underlying40
 have hu59 := Try.underlying59
 have HR0_0 := am_ hr0_0
 have HC0_0 := am_ hc0_0
 clear hr0_0 hc0_0
 have HR0_1 := am_ hr0_1
 have HC0_1 := am_ hc0_1
 clear hr0_1 hc0_1
 have HB := am_ (Below.refl w.heap.size w)
 have H : (cantonref07_Right.l0 k 0 l0_0 l0_1) = some r := h
 clear h
 have H' := am_ H
 clear H
 go_enter Try.func28, Try.ntmps28
 go_wp2_with (first | ((with_reducible refine gate_dst (N := 1) rfl ?_); refine box_event ?hg (N := 1) ?hd (cs := #[.slice A0_0 l0_0.length c0_0, .slice A0_1 l0_1.length c0_1]) (t := 34) ?hr ?_; (case hd => rfl); (case hg => rfl); (case hr => first | (go_simp; done) | (go_simp; rfl)); intro gb335 hg w2 hbox hb; have n0_ := am_ (below_step (kZ HB) hb); have n1_ := am_ (hbox); have n2_ := am_ (gW hg (kZ HB)); have n3_ := am_ (gW hg (kZ HB)); clear HB; have HB := n0_; have BK335 := n1_; have GW335 := n2_; have GE335 := n3_; clear n0_ n1_ n2_ n3_; clear hb hbox hg))
 go_loopg [3] k (fun kq v3 w' => ∃ (x3_1 : Int), v3 = .int .i64 x3_1 ∧ Aside0 (cantonref07_Right.l0 kq x3_1 l0_0 l0_1 = some r) ∧ Aside0 (kq ≤ k) ∧ Aside0 (w'.heap[gb335]? = some (.cells #[(.slice A0_0 l0_0.length c0_0), (.slice A0_1 l0_1.length c0_1)] 34 (0, 0))) ∧ Aside0 (Below w.heap.size w w'))
 case atStart => exact ⟨(0), e1_, H', ⟨Nat.le_refl _⟩, ⟨kB BK335⟩, ⟨kZ HB⟩⟩
 case round =>
  clear H'
  try clear p2
  obtain ⟨x3_1, rfl, HA, HK1, BK335, HB⟩ := hrel
  cases gk with
  | zero => exact absurd HA.out (by simp [cantonref07_Right.l0])
  | succ k1 =>
   have H := HA.out
   clear HA
   simp only [cantonref07_Right.l0] at H
   by_cases c3 : x3_1 < (l0_0.length : Int)
   rotate_left
   ·rw [if_neg c3] at H
    have c3b0 : decide (x3_1 < (l0_0.length : Int)) = false := decide_eq_false c3
    clear c3
    have H' := am_ H
    clear H
    have hcz24_0 : wr.cell? ⟨gb335, 0, none⟩ = some (.slice A0_0 l0_0.length c0_0) := (blk_cell BK335.out 0).trans rfl
    have hcz24_1 : wr.cell? ⟨gb335, 1, none⟩ = some (.slice A0_1 l0_1.length c0_1) := (blk_cell BK335.out 1).trans rfl
    have hfz24_0 := blk_frozen BK335.out 0
    have hfz24_1 := blk_frozen BK335.out 1
    go_wp2
    go_loopg [4] k1 (fun kq v4 w' => ∃ (x4_2 : Int), v4 = .int .i64 x4_2 ∧ Aside0 (cantonref07_Right.l1 kq x4_2 l0_0 l0_1 = some r) ∧ Aside0 (kq ≤ k1) ∧ Aside0 (w'.heap[gb335]? = some (.cells #[(.slice A0_0 l0_0.length c0_0), (.slice A0_1 l0_1.length c0_1)] 34 (0, 0))) ∧ Aside0 (Below w.heap.size w w'))
    case atStart => exact ⟨(0), e1_, H', ⟨Nat.le_refl _⟩, ⟨kB BK335⟩, ⟨kZ HB⟩⟩
    case round =>
     clear H'
     try clear p2
     try clear c3b0
     try clear p3
     try clear q3
     try clear hx3
     try clear p6
     try clear c7b0
     try clear hx336_0
     try clear hx336_1
     try clear hx336_2
     try clear hx336_3
     try clear hx336_4
     try clear p336
     try clear q336
     obtain ⟨x4_2, rfl, HA, HK2, BK335, HB⟩ := hrel
     cases gk with
     | zero => exact absurd HA.out (by simp [cantonref07_Right.l1])
     | succ k2 =>
      have H := HA.out
      clear HA
      simp only [cantonref07_Right.l1] at H
      by_cases c25 : x4_2 < (l0_1.length : Int)
      rotate_left
      ·rw [if_neg c25] at H
       have c25b0 : decide (x4_2 < (l0_1.length : Int)) = false := decide_eq_false c25
       clear c25
       obtain rfl := Option.some.inj H
       have hcz78_0 : wr.cell? ⟨gb335, 0, none⟩ = some (.slice A0_0 l0_0.length c0_0) := (blk_cell BK335.out 0).trans rfl
       have hcz78_1 : wr.cell? ⟨gb335, 1, none⟩ = some (.slice A0_1 l0_1.length c0_1) := (blk_cell BK335.out 1).trans rfl
       have hfz78_0 := blk_frozen BK335.out 0
       have hfz78_1 := blk_frozen BK335.out 1
       go_wp2
       go_ret
       exact ⟨e2_, kZ HB⟩

      rw [if_pos c25] at H
      have c25b0 : decide (x4_2 < (l0_1.length : Int)) = true := decide_eq_true c25
      clear c25
      by_cases c26 : 0 ≤ x4_2
      rotate_left
      ·rw [if_neg c26] at H
       exact absurd H (by simp)
      rw [if_pos c26] at H
      have c26b0 : decide (0 ≤ x4_2) = true := decide_eq_true c26
      clear c26
      replace H := Option.bind_eq_some_iff.mp H
      obtain ⟨t342, A270, H⟩ := H
      replace H : (if t342 = true then (if ((rd_T59 l0_1 x4_2).f1) < 1 then (some false) else (if ((rd_T59 l0_1 x4_2).f1) > 10000 then (some false) else (if x4_2 > 0 then (if 0 ≤ (wrap64 (x4_2 - 1)) then (if (wrap64 (x4_2 - 1)) < (l0_1.length : Int) then (if ((Op.bytesLess (((rd_T59 l0_1 (wrap64 (x4_2 - 1))).f0).toList) (((rd_T59 l0_1 x4_2).f0).toList)) = true) then (cantonref07_Right.l1 k2 (wrap64 (x4_2 + 1)) l0_0 l0_1) else (some false)) else (none)) else (none)) else (cantonref07_Right.l1 k2 (wrap64 (x4_2 + 1)) l0_0 l0_1)))) else (some false)) = some r := H
      have A27 := am_ A270
      clear A270
      by_cases c28 : t342 = true
      rotate_left
      ·replace c28 := Bool.eq_false_iff.mpr c28
       subst c28
       have H1 : (some false) = some r := by rw [if_neg (show ¬ (false = true) by decide)] at H; exact H
       clear H
       have H := H1
       clear H1
       obtain rfl := Option.some.inj H
       have hcz71_0 : wr.cell? ⟨gb335, 0, none⟩ = some (.slice A0_0 l0_0.length c0_0) := (blk_cell BK335.out 0).trans rfl
       have hcz71_1 : wr.cell? ⟨gb335, 1, none⟩ = some (.slice A0_1 l0_1.length c0_1) := (blk_cell BK335.out 1).trans rfl
       have hfz71_0 := blk_frozen BK335.out 0
       have hfz71_1 := blk_frozen BK335.out 1
       have p340 : 0 ≤ (x4_2 : Int) := od_
       have q340 : x4_2 < (l0_1.length : Int) := od_
       obtain ⟨ad340, e340, hx340_0, hx340_1⟩ := at_T59 HR0_1.out x4_2 p340 q340
       cases e340
       replace hx340_0 := pw_cell_below HB.out hx340_0
       replace hx340_1 := pw_cell_below HB.out hx340_1
       replace p340 := eq_true p340
       replace q340 := eq_true q340
       try go_wp2_with (first | ((with_reducible refine gate_dst (N := 5) rfl ?_); refine box_event ?hg (N := 5) ?hd (cs := #[.string (⟨#[]⟩ : ByteArray), .int .i64 0]) (t := 59) ?hr ?_; (case hd => rfl); (case hg => rfl); (case hr => first | (go_simp; done) | (go_simp; rfl)); intro gb341 hg w72 hbox hb; have n0_ := am_ (blk_below (kB BK335) hb); have n1_ := am_ (below_step (kZ HB) hb); have n2_ := am_ (hbox); have n3_ := am_ (gW hg (kZ HB)); have n4_ := am_ (gW hg (kZ HB)); have n5_ := am_ (gN hg (kB BK335)); have n6_ := am_ (gM hg (kB BK335)); clear BK335; clear HB; have BK335 := n0_; have HB := n1_; have BK341 := n2_; have GW341 := n3_; have GE341 := n4_; have NB335_341 := n5_; have NB341_335 := n6_; clear n0_ n1_ n2_ n3_ n4_ n5_ n6_; clear hb hbox hg; have hnb73 := NB341_335.out; have hnc73 := NB335_341.out; have hcz74_0 : w72.cell? ⟨gb341, 0, none⟩ = some (.string (⟨#[]⟩ : ByteArray)) := (blk_cell BK341.out 0).trans rfl; have hcz74_1 : w72.cell? ⟨gb341, 1, none⟩ = some (.int .i64 0) := (blk_cell BK341.out 1).trans rfl; have hfz74_0 := blk_frozen BK341.out 0; have hfz74_1 := blk_frozen BK341.out 1))
       have n0_ : Aside0 (((w72.setCell ⟨gb341, 0, none⟩ (.string ((rd_T59 l0_1 x4_2).f0))).setCell ⟨gb341, 1, none⟩ (.int .i64 ((rd_T59 l0_1 x4_2).f1))).heap[gb335]? = some (.cells #[.slice A0_0 l0_0.length c0_0, .slice (some ad340) l0_1.length c0_1] 34 (0, 0))) := ⟨by refine kD ?_; refine blk_far ?_ NB335_341.out _; refine kD ?_; refine blk_far ?_ NB335_341.out _; refine kD ?_; exact BK335.out⟩
       have n1_ : Aside0 (((w72.setCell ⟨gb341, 0, none⟩ (.string ((rd_T59 l0_1 x4_2).f0))).setCell ⟨gb341, 1, none⟩ (.int .i64 ((rd_T59 l0_1 x4_2).f1))).heap[gb341]? = some (.cells #[.string ((rd_T59 l0_1 x4_2).f0), .int .i64 ((rd_T59 l0_1 x4_2).f1)] 59 (0, 0))) := ⟨by refine kD ?_; refine blk_put (cs := #[.string ((rd_T59 l0_1 x4_2).f0), .int .i64 0]) ?_ 1 _ rfl; refine kD ?_; refine blk_put (cs := #[.string (⟨#[]⟩ : ByteArray), .int .i64 0]) ?_ 0 _ rfl; refine kD ?_; exact BK341.out⟩
       have n2_ : Aside0 (Below w.heap.size w ((w72.setCell ⟨gb341, 0, none⟩ (.string ((rd_T59 l0_1 x4_2).f0))).setCell ⟨gb341, 1, none⟩ (.int .i64 ((rd_T59 l0_1 x4_2).f1)))) := ⟨kZ HB⟩
       (try clear BK335)
       (try clear BK341)
       (try clear HB)
       generalize ((w72.setCell ⟨gb341, 0, none⟩ (.string ((rd_T59 l0_1 x4_2).f0))).setCell ⟨gb341, 1, none⟩ (.int .i64 ((rd_T59 l0_1 x4_2).f1))) = w75 at n0_ n1_ n2_ ⊢
       have BK335 := n0_
       have BK341 := n1_
       have HB := n2_
       clear n0_ n1_ n2_
       have n0_ := am_ (blk_drew BK335.out)
       have n1_ := am_ (blk_drew BK341.out)
       have n2_ := am_ (below_drew1 HB.out)
       clear BK335
       clear BK341
       clear HB
       have BK335 := n0_
       have BK341 := n1_
       have HB := n2_
       clear n0_ n1_ n2_
       refine start_ (n := 30) (S := fun w' => w'.cell? ⟨gb341, 0, none⟩ = some (.string ((rd_T59 l0_1 x4_2).f0)) ∧ w'.cell? ⟨gb341, 1, none⟩ = some (.int .i64 ((rd_T59 l0_1 x4_2).f1))) (ds := []) x16tr30_0 (by kernel_rfl) rfl rfl ⟨(blk_cell BK341.out 0).trans rfl, (blk_cell BK341.out 1).trans rfl⟩ (fun hHeld => ?_); refine with_tabW cantonref07_Right.tab10 cantonref07_Right.bits10 (fun HT_ HW_ => ?_)
       generalize w75.drew = w76 at BK335 BK341 HB hHeld ⊢
       refine pA_ 0 52 x16tr30_1 HT_.out ?_
       refine tA_ 1 53 x16tr30_2 HT_.out HW_.out hHeld ?_
       refine one_ (i := 2) (N := some 54) x16tr30_3 rfl rfl (one_of HT_.out (by kernel_rfl)) (by decide) (fun K hK => ?_)
       refine goes_ Try.func29 (by kernel_rfl) rfl #[.string ((rd_T59 l0_1 x4_2).f0)] (by rfl) rfl rfl m_ ?_
       with_reducible refine (cantonref01_Right.calls k2 ((rd_T59 l0_1 x4_2).f0) false _ A27.out).mono ?_
       rintro e w77 ⟨rfl, hb⟩
       refine ⟨_, rfl, ?_⟩
       have n0_ := am_ (blk_below (kB BK335) hb)
       have n1_ := am_ (blk_below (kB BK341) hb)
       have n2_ := am_ (below_step (kZ HB) hb)
       clear BK335
       clear BK341
       clear HB
       have BK335 := n0_
       have BK341 := n1_
       have HB := n2_
       clear n0_ n1_ n2_
       (try clear hb)
       (try clear hb2)
       (try clear hk)
       (try clear hi)
       refine hK.out _ _ ⟨(blk_cell BK341.out 0).trans rfl, (blk_cell BK341.out 1).trans rfl⟩ (fun hHeld => ?_)
       clear hK K
       refine norm_ (a' := ?_) ?_ ?_
       rotate_left
       ·show Act.put _ (some 54) _ = _
        simp only [Act.put, List.setIfInBounds_toArray, List.set_cons_zero, List.set_cons_succ, i64_w, i32_w]
        rfl
       refine pA_ 3 55 x16tr30_4 HT_.out ?_
       refine pA_ 4 56 x16tr30_5 HT_.out ?_
       refine pU_ 5 57 x16tr30_6 HT_.out ?_
       refine pU_ 6 58 x16tr30_7 HT_.out ?_
       refine pU_ 7 59 x16tr30_8 HT_.out ?_
       refine pA_ 8 60 x16tr30_9 HT_.out ?_
       refine pA_ 9 61 x16tr30_10 HT_.out ?_
       refine pU_ 10 62 x16tr30_11 HT_.out ?_
       refine pU_ 11 63 x16tr30_12 HT_.out ?_
       refine pU_ 12 64 x16tr30_13 HT_.out ?_
       refine pA_ 13 65 x16tr30_14 HT_.out ?_
       refine pA_ 14 66 x16tr30_15 HT_.out ?_
       refine pU_ 15 67 x16tr30_16 HT_.out ?_
       refine pU_ 16 68 x16tr30_17 HT_.out ?_
       refine pU_ 17 69 x16tr30_18 HT_.out ?_
       refine pU_ 18 70 x16tr30_19 HT_.out ?_
       refine pU_ 19 71 x16tr30_20 HT_.out ?_
       refine pU_ 20 72 x16tr30_21 HT_.out ?_
       refine pU_ 21 73 x16tr30_22 HT_.out ?_
       refine pU_ 22 74 x16tr30_23 HT_.out ?_
       refine pU_ 23 75 x16tr30_24 HT_.out ?_
       refine pU_ 24 76 x16tr30_25 HT_.out ?_
       refine pU_ 25 77 x16tr30_26 HT_.out ?_
       refine pU_ 26 78 x16tr30_27 HT_.out ?_
       refine pU_ 27 79 x16tr30_28 HT_.out ?_
       refine pU_ 28 80 x16tr30_29 HT_.out ?_
       refine pA_ 29 81 x16tr30_30 HT_.out ?_
       refine done_ (done_of HT_.out (by kernel_rfl)) ?_
       try go_wp2
       go_ret
       exact ⟨e2_, kZ HB⟩
      subst c28
      have H1 : (if ((rd_T59 l0_1 x4_2).f1) < 1 then (some false) else (if ((rd_T59 l0_1 x4_2).f1) > 10000 then (some false) else (if x4_2 > 0 then (if 0 ≤ (wrap64 (x4_2 - 1)) then (if (wrap64 (x4_2 - 1)) < (l0_1.length : Int) then (if ((Op.bytesLess (((rd_T59 l0_1 (wrap64 (x4_2 - 1))).f0).toList) (((rd_T59 l0_1 x4_2).f0).toList)) = true) then (cantonref07_Right.l1 k2 (wrap64 (x4_2 + 1)) l0_0 l0_1) else (some false)) else (none)) else (none)) else (cantonref07_Right.l1 k2 (wrap64 (x4_2 + 1)) l0_0 l0_1)))) = some r := by rw [if_pos rfl] at H; exact H
      clear H
      have H := H1
      clear H1
      by_cases c29 : ((rd_T59 l0_1 x4_2).f1) < 1
      rotate_left
      ·rw [if_neg c29] at H
       have c29b0 : decide (((rd_T59 l0_1 x4_2).f1) < 1) = false := decide_eq_false c29
       clear c29
       by_cases c37 : ((rd_T59 l0_1 x4_2).f1) > 10000
       rotate_left
       ·rw [if_neg c37] at H
        have c37b0 : decide (10000 < ((rd_T59 l0_1 x4_2).f1)) = false := decide_eq_false c37
        clear c37
        by_cases c45 : x4_2 > 0
        rotate_left
        ·rw [if_neg c45] at H
         have c45b0 : decide (0 < x4_2) = false := decide_eq_false c45
         clear c45
         have H' := am_ H
         clear H
         have hcz64_0 : wr.cell? ⟨gb335, 0, none⟩ = some (.slice A0_0 l0_0.length c0_0) := (blk_cell BK335.out 0).trans rfl
         have hcz64_1 : wr.cell? ⟨gb335, 1, none⟩ = some (.slice A0_1 l0_1.length c0_1) := (blk_cell BK335.out 1).trans rfl
         have hfz64_0 := blk_frozen BK335.out 0
         have hfz64_1 := blk_frozen BK335.out 1
         have p340 : 0 ≤ (x4_2 : Int) := od_
         have q340 : x4_2 < (l0_1.length : Int) := od_
         obtain ⟨ad340, e340, hx340_0, hx340_1⟩ := at_T59 HR0_1.out x4_2 p340 q340
         cases e340
         replace hx340_0 := pw_cell_below HB.out hx340_0
         replace hx340_1 := pw_cell_below HB.out hx340_1
         replace p340 := eq_true p340
         replace q340 := eq_true q340
         try go_wp2_with (first | ((with_reducible refine gate_dst (N := 5) rfl ?_); refine box_event ?hg (N := 5) ?hd (cs := #[.string (⟨#[]⟩ : ByteArray), .int .i64 0]) (t := 59) ?hr ?_; (case hd => rfl); (case hg => rfl); (case hr => first | (go_simp; done) | (go_simp; rfl)); intro gb341 hg w65 hbox hb; have n0_ := am_ (blk_below (kB BK335) hb); have n1_ := am_ (below_step (kZ HB) hb); have n2_ := am_ (hbox); have n3_ := am_ (gW hg (kZ HB)); have n4_ := am_ (gW hg (kZ HB)); have n5_ := am_ (gN hg (kB BK335)); have n6_ := am_ (gM hg (kB BK335)); clear BK335; clear HB; have BK335 := n0_; have HB := n1_; have BK341 := n2_; have GW341 := n3_; have GE341 := n4_; have NB335_341 := n5_; have NB341_335 := n6_; clear n0_ n1_ n2_ n3_ n4_ n5_ n6_; clear hb hbox hg; have hnb66 := NB341_335.out; have hnc66 := NB335_341.out; have hcz67_0 : w65.cell? ⟨gb341, 0, none⟩ = some (.string (⟨#[]⟩ : ByteArray)) := (blk_cell BK341.out 0).trans rfl; have hcz67_1 : w65.cell? ⟨gb341, 1, none⟩ = some (.int .i64 0) := (blk_cell BK341.out 1).trans rfl; have hfz67_0 := blk_frozen BK341.out 0; have hfz67_1 := blk_frozen BK341.out 1))
         have n0_ : Aside0 (((w65.setCell ⟨gb341, 0, none⟩ (.string ((rd_T59 l0_1 x4_2).f0))).setCell ⟨gb341, 1, none⟩ (.int .i64 ((rd_T59 l0_1 x4_2).f1))).heap[gb335]? = some (.cells #[.slice A0_0 l0_0.length c0_0, .slice (some ad340) l0_1.length c0_1] 34 (0, 0))) := ⟨by refine kD ?_; refine blk_far ?_ NB335_341.out _; refine kD ?_; refine blk_far ?_ NB335_341.out _; refine kD ?_; exact BK335.out⟩
         have n1_ : Aside0 (((w65.setCell ⟨gb341, 0, none⟩ (.string ((rd_T59 l0_1 x4_2).f0))).setCell ⟨gb341, 1, none⟩ (.int .i64 ((rd_T59 l0_1 x4_2).f1))).heap[gb341]? = some (.cells #[.string ((rd_T59 l0_1 x4_2).f0), .int .i64 ((rd_T59 l0_1 x4_2).f1)] 59 (0, 0))) := ⟨by refine kD ?_; refine blk_put (cs := #[.string ((rd_T59 l0_1 x4_2).f0), .int .i64 0]) ?_ 1 _ rfl; refine kD ?_; refine blk_put (cs := #[.string (⟨#[]⟩ : ByteArray), .int .i64 0]) ?_ 0 _ rfl; refine kD ?_; exact BK341.out⟩
         have n2_ : Aside0 (Below w.heap.size w ((w65.setCell ⟨gb341, 0, none⟩ (.string ((rd_T59 l0_1 x4_2).f0))).setCell ⟨gb341, 1, none⟩ (.int .i64 ((rd_T59 l0_1 x4_2).f1)))) := ⟨kZ HB⟩
         (try clear BK335)
         (try clear BK341)
         (try clear HB)
         generalize ((w65.setCell ⟨gb341, 0, none⟩ (.string ((rd_T59 l0_1 x4_2).f0))).setCell ⟨gb341, 1, none⟩ (.int .i64 ((rd_T59 l0_1 x4_2).f1))) = w68 at n0_ n1_ n2_ ⊢
         have BK335 := n0_
         have BK341 := n1_
         have HB := n2_
         clear n0_ n1_ n2_
         have n0_ := am_ (blk_drew BK335.out)
         have n1_ := am_ (blk_drew BK341.out)
         have n2_ := am_ (below_drew1 HB.out)
         clear BK335
         clear BK341
         clear HB
         have BK335 := n0_
         have BK341 := n1_
         have HB := n2_
         clear n0_ n1_ n2_
         refine start_ (n := 30) (S := fun w' => w'.cell? ⟨gb341, 0, none⟩ = some (.string ((rd_T59 l0_1 x4_2).f0)) ∧ w'.cell? ⟨gb341, 1, none⟩ = some (.int .i64 ((rd_T59 l0_1 x4_2).f1))) (ds := []) x16tr30_0 (by kernel_rfl) rfl rfl ⟨(blk_cell BK341.out 0).trans rfl, (blk_cell BK341.out 1).trans rfl⟩ (fun hHeld => ?_); refine with_tabW cantonref07_Right.tab10 cantonref07_Right.bits10 (fun HT_ HW_ => ?_)
         generalize w68.drew = w69 at BK335 BK341 HB hHeld ⊢
         refine pA_ 0 52 x16tr30_1 HT_.out ?_
         refine tA_ 1 53 x16tr30_2 HT_.out HW_.out hHeld ?_
         refine one_ (i := 2) (N := some 54) x16tr30_3 rfl rfl (one_of HT_.out (by kernel_rfl)) (by decide) (fun K hK => ?_)
         refine goes_ Try.func29 (by kernel_rfl) rfl #[.string ((rd_T59 l0_1 x4_2).f0)] (by rfl) rfl rfl m_ ?_
         with_reducible refine (cantonref01_Right.calls k2 ((rd_T59 l0_1 x4_2).f0) true _ A27.out).mono ?_
         rintro e w70 ⟨rfl, hb⟩
         refine ⟨_, rfl, ?_⟩
         have n0_ := am_ (blk_below (kB BK335) hb)
         have n1_ := am_ (blk_below (kB BK341) hb)
         have n2_ := am_ (below_step (kZ HB) hb)
         clear BK335
         clear BK341
         clear HB
         have BK335 := n0_
         have BK341 := n1_
         have HB := n2_
         clear n0_ n1_ n2_
         (try clear hb)
         (try clear hb2)
         (try clear hk)
         (try clear hi)
         refine hK.out _ _ ⟨(blk_cell BK341.out 0).trans rfl, (blk_cell BK341.out 1).trans rfl⟩ (fun hHeld => ?_)
         clear hK K
         refine norm_ (a' := ?_) ?_ ?_
         rotate_left
         ·show Act.put _ (some 54) _ = _
          simp only [Act.put, List.setIfInBounds_toArray, List.set_cons_zero, List.set_cons_succ, i64_w, i32_w]
          rfl
         refine pA_ 3 55 x16tr30_4 HT_.out ?_
         refine pA_ 4 56 x16tr30_5 HT_.out ?_
         refine pA_ 5 57 x16tr30_6 HT_.out ?_
         refine tA_ 6 58 x16tr30_7 HT_.out HW_.out hHeld ?_
         refine pA_ 7 59 x16tr30_8 HT_.out ?_
         refine pA_ 8 60 x16tr30_9 HT_.out ?_
         refine pA_ 9 61 x16tr30_10 HT_.out ?_
         refine pA_ 10 62 x16tr30_11 HT_.out ?_
         refine tA_ 11 63 x16tr30_12 HT_.out HW_.out hHeld ?_
         refine pA_ 12 64 x16tr30_13 HT_.out ?_
         refine pA_ 13 65 x16tr30_14 HT_.out ?_
         refine pA_ 14 66 x16tr30_15 HT_.out ?_
         refine pA_ 15 67 x16tr30_16 HT_.out ?_
         refine pA_ 16 68 x16tr30_17 HT_.out ?_
         refine pA_ 17 69 x16tr30_18 HT_.out ?_
         refine pU_ 18 70 x16tr30_19 HT_.out ?_
         refine pU_ 19 71 x16tr30_20 HT_.out ?_
         refine pU_ 20 72 x16tr30_21 HT_.out ?_
         refine pU_ 21 73 x16tr30_22 HT_.out ?_
         refine pU_ 22 74 x16tr30_23 HT_.out ?_
         refine pU_ 23 75 x16tr30_24 HT_.out ?_
         refine pU_ 24 76 x16tr30_25 HT_.out ?_
         refine pU_ 25 77 x16tr30_26 HT_.out ?_
         refine pU_ 26 78 x16tr30_27 HT_.out ?_
         refine pU_ 27 79 x16tr30_28 HT_.out ?_
         refine pA_ 28 80 x16tr30_29 HT_.out ?_
         refine pA_ 29 81 x16tr30_30 HT_.out ?_
         refine done_ (done_of HT_.out (by kernel_rfl)) ?_
         try go_wp2
         go_roundg k2
         case measure => have := HK1.out; have := HK2.out; omega
         case rel => exact ⟨(wrap64 (x4_2 + 1)), e1_, H', ⟨by have := HK1.out; have := HK2.out; omega⟩, ⟨kB BK335⟩, ⟨kZ HB⟩⟩
        rw [if_pos c45] at H
        have c45b0 : decide (0 < x4_2) = true := decide_eq_true c45
        clear c45
        obtain ⟨ji46, hji46⟩ : ∃ j_ : Int, (wrap64 (x4_2 - 1)) = j_ := ⟨_, rfl⟩
        replace H : (if 0 ≤ (ji46) then (if (ji46) < (l0_1.length : Int) then (if ((Op.bytesLess (((rd_T59 l0_1 (ji46)).f0).toList) (((rd_T59 l0_1 x4_2).f0).toList)) = true) then (cantonref07_Right.l1 k2 (wrap64 (x4_2 + 1)) l0_0 l0_1) else (some false)) else (none)) else (none)) = some r := by first | (rw [hji46] at H; exact H) | (simp only [hji46] at H ⊢; exact H)
        (try rw [hji46] at A27)
        have hji46w : (IntKind.i64.wrap (x4_2 - 1)) = ji46 := (i64_w _).trans hji46
        by_cases c47 : 0 ≤ (ji46)
        rotate_left
        ·rw [if_neg c47] at H
         exact absurd H (by simp)
        rw [if_pos c47] at H
        have c47b0 : decide (0 ≤ (ji46)) = true := decide_eq_true c47
        clear c47
        by_cases c48 : (ji46) < (l0_1.length : Int)
        rotate_left
        ·rw [if_neg c48] at H
         exact absurd H (by simp)
        rw [if_pos c48] at H
        have c48b0 : decide ((ji46) < (l0_1.length : Int)) = true := decide_eq_true c48
        clear c48
        by_cases c49 : ((Op.bytesLess (((rd_T59 l0_1 (ji46)).f0).toList) (((rd_T59 l0_1 x4_2).f0).toList)) = true)
        rotate_left
        ·rw [if_neg c49] at H
         have c49b0 : (Op.bytesLess (((rd_T59 l0_1 (ji46)).f0).toList) (((rd_T59 l0_1 x4_2).f0).toList)) = false := by simpa using c49
         clear c49
         obtain rfl := Option.some.inj H
         have hcz57_0 : wr.cell? ⟨gb335, 0, none⟩ = some (.slice A0_0 l0_0.length c0_0) := (blk_cell BK335.out 0).trans rfl
         have hcz57_1 : wr.cell? ⟨gb335, 1, none⟩ = some (.slice A0_1 l0_1.length c0_1) := (blk_cell BK335.out 1).trans rfl
         have hfz57_0 := blk_frozen BK335.out 0
         have hfz57_1 := blk_frozen BK335.out 1
         have p340 : 0 ≤ (x4_2 : Int) := od_
         have q340 : x4_2 < (l0_1.length : Int) := od_
         obtain ⟨ad340, e340, hx340_0, hx340_1⟩ := at_T59 HR0_1.out x4_2 p340 q340
         cases e340
         replace hx340_0 := pw_cell_below HB.out hx340_0
         replace hx340_1 := pw_cell_below HB.out hx340_1
         replace p340 := eq_true p340
         replace q340 := eq_true q340
         try go_wp2_with (first | ((with_reducible refine gate_dst (N := 5) rfl ?_); refine box_event ?hg (N := 5) ?hd (cs := #[.string (⟨#[]⟩ : ByteArray), .int .i64 0]) (t := 59) ?hr ?_; (case hd => rfl); (case hg => rfl); (case hr => first | (go_simp; done) | (go_simp; rfl)); intro gb341 hg w58 hbox hb; have n0_ := am_ (blk_below (kB BK335) hb); have n1_ := am_ (below_step (kZ HB) hb); have n2_ := am_ (hbox); have n3_ := am_ (gW hg (kZ HB)); have n4_ := am_ (gW hg (kZ HB)); have n5_ := am_ (gN hg (kB BK335)); have n6_ := am_ (gM hg (kB BK335)); clear BK335; clear HB; have BK335 := n0_; have HB := n1_; have BK341 := n2_; have GW341 := n3_; have GE341 := n4_; have NB335_341 := n5_; have NB341_335 := n6_; clear n0_ n1_ n2_ n3_ n4_ n5_ n6_; clear hb hbox hg; have hnb59 := NB341_335.out; have hnc59 := NB335_341.out; have hcz60_0 : w58.cell? ⟨gb341, 0, none⟩ = some (.string (⟨#[]⟩ : ByteArray)) := (blk_cell BK341.out 0).trans rfl; have hcz60_1 : w58.cell? ⟨gb341, 1, none⟩ = some (.int .i64 0) := (blk_cell BK341.out 1).trans rfl; have hfz60_0 := blk_frozen BK341.out 0; have hfz60_1 := blk_frozen BK341.out 1))
         have n0_ : Aside0 (((w58.setCell ⟨gb341, 0, none⟩ (.string ((rd_T59 l0_1 x4_2).f0))).setCell ⟨gb341, 1, none⟩ (.int .i64 ((rd_T59 l0_1 x4_2).f1))).heap[gb335]? = some (.cells #[.slice A0_0 l0_0.length c0_0, .slice (some ad340) l0_1.length c0_1] 34 (0, 0))) := ⟨by refine kD ?_; refine blk_far ?_ NB335_341.out _; refine kD ?_; refine blk_far ?_ NB335_341.out _; refine kD ?_; exact BK335.out⟩
         have n1_ : Aside0 (((w58.setCell ⟨gb341, 0, none⟩ (.string ((rd_T59 l0_1 x4_2).f0))).setCell ⟨gb341, 1, none⟩ (.int .i64 ((rd_T59 l0_1 x4_2).f1))).heap[gb341]? = some (.cells #[.string ((rd_T59 l0_1 x4_2).f0), .int .i64 ((rd_T59 l0_1 x4_2).f1)] 59 (0, 0))) := ⟨by refine kD ?_; refine blk_put (cs := #[.string ((rd_T59 l0_1 x4_2).f0), .int .i64 0]) ?_ 1 _ rfl; refine kD ?_; refine blk_put (cs := #[.string (⟨#[]⟩ : ByteArray), .int .i64 0]) ?_ 0 _ rfl; refine kD ?_; exact BK341.out⟩
         have n2_ : Aside0 (Below w.heap.size w ((w58.setCell ⟨gb341, 0, none⟩ (.string ((rd_T59 l0_1 x4_2).f0))).setCell ⟨gb341, 1, none⟩ (.int .i64 ((rd_T59 l0_1 x4_2).f1)))) := ⟨kZ HB⟩
         (try clear BK335)
         (try clear BK341)
         (try clear HB)
         generalize ((w58.setCell ⟨gb341, 0, none⟩ (.string ((rd_T59 l0_1 x4_2).f0))).setCell ⟨gb341, 1, none⟩ (.int .i64 ((rd_T59 l0_1 x4_2).f1))) = w61 at n0_ n1_ n2_ ⊢
         have BK335 := n0_
         have BK341 := n1_
         have HB := n2_
         clear n0_ n1_ n2_
         have n0_ := am_ (blk_drew BK335.out)
         have n1_ := am_ (blk_drew BK341.out)
         have n2_ := am_ (below_drew1 HB.out)
         clear BK335
         clear BK341
         clear HB
         have BK335 := n0_
         have BK341 := n1_
         have HB := n2_
         clear n0_ n1_ n2_
         have p343 : 0 ≤ ((ji46) : Int) := od_
         have q343 : (ji46) < (l0_1.length : Int) := od_
         obtain ⟨ad343, e343, hx343_0, hx343_1⟩ := at_T59 HR0_1.out (ji46) p343 q343
         have hw343_1 := hx343_1
         have hw343_0 := hx343_0
         obtain rfl : ad340 = ad343 := (by injection e343)
         replace hx343_0 := pw_cell_below HB.out hx343_0
         replace hx343_1 := pw_cell_below HB.out hx343_1
         replace p343 := eq_true p343
         replace q343 := eq_true q343
         refine start_ (n := 30) (S := fun w' => w'.cell? ⟨gb341, 0, none⟩ = some (.string ((rd_T59 l0_1 x4_2).f0)) ∧ w'.cell? ⟨gb341, 1, none⟩ = some (.int .i64 ((rd_T59 l0_1 x4_2).f1)) ∧ w'.cell? ⟨gb335, 0, none⟩ = some (.slice A0_0 l0_0.length c0_0) ∧ w'.cell? ⟨gb335, 1, none⟩ = some (.slice (some ad340) l0_1.length c0_1) ∧ w'.cell? (ad340.add (((ji46)).toNat * 2)) = some (.string ((rd_T59 l0_1 (ji46)).f0)) ∧ w'.cell? ⟨(ad340.add (((ji46)).toNat * 2)).block, (ad340.add (((ji46)).toNat * 2)).off + 1, none⟩ = some (.int .i64 ((rd_T59 l0_1 (ji46)).f1))) (ds := []) x16tr30_0 (by kernel_rfl) rfl rfl ⟨(blk_cell BK341.out 0).trans rfl, (blk_cell BK341.out 1).trans rfl, (blk_cell BK335.out 0).trans rfl, (blk_cell BK335.out 1).trans rfl, (pw_cell_below HB.out hw343_0), (pw_cell_below HB.out hw343_1)⟩ (fun hHeld => ?_); refine with_tabW cantonref07_Right.tab10 cantonref07_Right.bits10 (fun HT_ HW_ => ?_)
         generalize w61.drew = w62 at BK335 BK341 HB hx343_0 hx343_1 hHeld ⊢
         refine pA_ 0 52 x16tr30_1 HT_.out ?_
         refine tA_ 1 53 x16tr30_2 HT_.out HW_.out hHeld ?_
         refine one_ (i := 2) (N := some 54) x16tr30_3 rfl rfl (one_of HT_.out (by kernel_rfl)) (by decide) (fun K hK => ?_)
         refine goes_ Try.func29 (by kernel_rfl) rfl #[.string ((rd_T59 l0_1 x4_2).f0)] (by rfl) rfl rfl m_ ?_
         with_reducible refine (cantonref01_Right.calls k2 ((rd_T59 l0_1 x4_2).f0) true _ A27.out).mono ?_
         rintro e w63 ⟨rfl, hb⟩
         refine ⟨_, rfl, ?_⟩
         have n0_ := am_ (blk_below (kB BK335) hb)
         have n1_ := am_ (blk_below (kB BK341) hb)
         have n2_ := am_ (below_step (kZ HB) hb)
         clear BK335
         clear BK341
         clear HB
         have BK335 := n0_
         have BK341 := n1_
         have HB := n2_
         clear n0_ n1_ n2_
         (try clear hb)
         (try clear hb2)
         (try clear hk)
         (try clear hi)
         refine hK.out _ _ ⟨(blk_cell BK341.out 0).trans rfl, (blk_cell BK341.out 1).trans rfl, (blk_cell BK335.out 0).trans rfl, (blk_cell BK335.out 1).trans rfl, (pw_cell_below HB.out hw343_0), (pw_cell_below HB.out hw343_1)⟩ (fun hHeld => ?_)
         clear hK K
         refine norm_ (a' := ?_) ?_ ?_
         rotate_left
         ·show Act.put _ (some 54) _ = _
          simp only [Act.put, List.setIfInBounds_toArray, List.set_cons_zero, List.set_cons_succ, i64_w, i32_w]
          rfl
         refine pA_ 3 55 x16tr30_4 HT_.out ?_
         refine pA_ 4 56 x16tr30_5 HT_.out ?_
         refine pA_ 5 57 x16tr30_6 HT_.out ?_
         refine tA_ 6 58 x16tr30_7 HT_.out HW_.out hHeld ?_
         refine pA_ 7 59 x16tr30_8 HT_.out ?_
         refine pA_ 8 60 x16tr30_9 HT_.out ?_
         refine pA_ 9 61 x16tr30_10 HT_.out ?_
         refine pA_ 10 62 x16tr30_11 HT_.out ?_
         refine tA_ 11 63 x16tr30_12 HT_.out HW_.out hHeld ?_
         refine pA_ 12 64 x16tr30_13 HT_.out ?_
         refine pA_ 13 65 x16tr30_14 HT_.out ?_
         refine pA_ 14 66 x16tr30_15 HT_.out ?_
         refine pA_ 15 67 x16tr30_16 HT_.out ?_
         refine pA_ 16 68 x16tr30_17 HT_.out ?_
         refine pA_ 17 69 x16tr30_18 HT_.out ?_
         refine pA_ 18 70 x16tr30_19 HT_.out ?_
         refine pA_ 20 72 x16tr30_m111111111111111111101000000000 HT_.out ?_
         refine pA_ 21 73 x16tr30_m111111111111111111101100000000 HT_.out ?_
         refine pA_ 25 77 x16tr30_m111111111111111111101100010000 HT_.out ?_
         refine tA_ 19 71 x16tr30_m111111111111111111111100010000 HT_.out HW_.out hHeld ?_
         refine pA_ 22 74 x16tr30_m111111111111111111111110010000 HT_.out ?_
         refine pA_ 23 75 x16tr30_m111111111111111111111111010000 HT_.out ?_
         refine tA_ 24 76 x16tr30_26 HT_.out HW_.out hHeld ?_
         refine tA_ 26 78 x16tr30_27 HT_.out HW_.out hHeld ?_
         refine pA_ 27 79 x16tr30_28 HT_.out ?_
         refine pA_ 28 80 x16tr30_29 HT_.out ?_
         refine pA_ 29 81 x16tr30_30 HT_.out ?_
         refine done_ (done_of HT_.out (by kernel_rfl)) ?_
         try go_wp2
         go_ret
         exact ⟨by first | rfl | (simp [errW_none, errW_some] <;> rfl) | (simp only [← hji46]; first | rfl | (simp [errW_none, errW_some] <;> rfl)) | (simp [*, errW_none, errW_some] <;> rfl), kZ HB⟩
        rw [if_pos c49] at H
        have c49b0 : (Op.bytesLess (((rd_T59 l0_1 (ji46)).f0).toList) (((rd_T59 l0_1 x4_2).f0).toList)) = true := c49
        clear c49
        have H' := am_ H
        clear H
        have hcz50_0 : wr.cell? ⟨gb335, 0, none⟩ = some (.slice A0_0 l0_0.length c0_0) := (blk_cell BK335.out 0).trans rfl
        have hcz50_1 : wr.cell? ⟨gb335, 1, none⟩ = some (.slice A0_1 l0_1.length c0_1) := (blk_cell BK335.out 1).trans rfl
        have hfz50_0 := blk_frozen BK335.out 0
        have hfz50_1 := blk_frozen BK335.out 1
        have p340 : 0 ≤ (x4_2 : Int) := od_
        have q340 : x4_2 < (l0_1.length : Int) := od_
        obtain ⟨ad340, e340, hx340_0, hx340_1⟩ := at_T59 HR0_1.out x4_2 p340 q340
        cases e340
        replace hx340_0 := pw_cell_below HB.out hx340_0
        replace hx340_1 := pw_cell_below HB.out hx340_1
        replace p340 := eq_true p340
        replace q340 := eq_true q340
        try go_wp2_with (first | ((with_reducible refine gate_dst (N := 5) rfl ?_); refine box_event ?hg (N := 5) ?hd (cs := #[.string (⟨#[]⟩ : ByteArray), .int .i64 0]) (t := 59) ?hr ?_; (case hd => rfl); (case hg => rfl); (case hr => first | (go_simp; done) | (go_simp; rfl)); intro gb341 hg w51 hbox hb; have n0_ := am_ (blk_below (kB BK335) hb); have n1_ := am_ (below_step (kZ HB) hb); have n2_ := am_ (hbox); have n3_ := am_ (gW hg (kZ HB)); have n4_ := am_ (gW hg (kZ HB)); have n5_ := am_ (gN hg (kB BK335)); have n6_ := am_ (gM hg (kB BK335)); clear BK335; clear HB; have BK335 := n0_; have HB := n1_; have BK341 := n2_; have GW341 := n3_; have GE341 := n4_; have NB335_341 := n5_; have NB341_335 := n6_; clear n0_ n1_ n2_ n3_ n4_ n5_ n6_; clear hb hbox hg; have hnb52 := NB341_335.out; have hnc52 := NB335_341.out; have hcz53_0 : w51.cell? ⟨gb341, 0, none⟩ = some (.string (⟨#[]⟩ : ByteArray)) := (blk_cell BK341.out 0).trans rfl; have hcz53_1 : w51.cell? ⟨gb341, 1, none⟩ = some (.int .i64 0) := (blk_cell BK341.out 1).trans rfl; have hfz53_0 := blk_frozen BK341.out 0; have hfz53_1 := blk_frozen BK341.out 1))
        have n0_ : Aside0 (((w51.setCell ⟨gb341, 0, none⟩ (.string ((rd_T59 l0_1 x4_2).f0))).setCell ⟨gb341, 1, none⟩ (.int .i64 ((rd_T59 l0_1 x4_2).f1))).heap[gb335]? = some (.cells #[.slice A0_0 l0_0.length c0_0, .slice (some ad340) l0_1.length c0_1] 34 (0, 0))) := ⟨by refine kD ?_; refine blk_far ?_ NB335_341.out _; refine kD ?_; refine blk_far ?_ NB335_341.out _; refine kD ?_; exact BK335.out⟩
        have n1_ : Aside0 (((w51.setCell ⟨gb341, 0, none⟩ (.string ((rd_T59 l0_1 x4_2).f0))).setCell ⟨gb341, 1, none⟩ (.int .i64 ((rd_T59 l0_1 x4_2).f1))).heap[gb341]? = some (.cells #[.string ((rd_T59 l0_1 x4_2).f0), .int .i64 ((rd_T59 l0_1 x4_2).f1)] 59 (0, 0))) := ⟨by refine kD ?_; refine blk_put (cs := #[.string ((rd_T59 l0_1 x4_2).f0), .int .i64 0]) ?_ 1 _ rfl; refine kD ?_; refine blk_put (cs := #[.string (⟨#[]⟩ : ByteArray), .int .i64 0]) ?_ 0 _ rfl; refine kD ?_; exact BK341.out⟩
        have n2_ : Aside0 (Below w.heap.size w ((w51.setCell ⟨gb341, 0, none⟩ (.string ((rd_T59 l0_1 x4_2).f0))).setCell ⟨gb341, 1, none⟩ (.int .i64 ((rd_T59 l0_1 x4_2).f1)))) := ⟨kZ HB⟩
        (try clear BK335)
        (try clear BK341)
        (try clear HB)
        generalize ((w51.setCell ⟨gb341, 0, none⟩ (.string ((rd_T59 l0_1 x4_2).f0))).setCell ⟨gb341, 1, none⟩ (.int .i64 ((rd_T59 l0_1 x4_2).f1))) = w54 at n0_ n1_ n2_ ⊢
        have BK335 := n0_
        have BK341 := n1_
        have HB := n2_
        clear n0_ n1_ n2_
        have n0_ := am_ (blk_drew BK335.out)
        have n1_ := am_ (blk_drew BK341.out)
        have n2_ := am_ (below_drew1 HB.out)
        clear BK335
        clear BK341
        clear HB
        have BK335 := n0_
        have BK341 := n1_
        have HB := n2_
        clear n0_ n1_ n2_
        have p343 : 0 ≤ ((ji46) : Int) := od_
        have q343 : (ji46) < (l0_1.length : Int) := od_
        obtain ⟨ad343, e343, hx343_0, hx343_1⟩ := at_T59 HR0_1.out (ji46) p343 q343
        have hw343_1 := hx343_1
        have hw343_0 := hx343_0
        obtain rfl : ad340 = ad343 := (by injection e343)
        replace hx343_0 := pw_cell_below HB.out hx343_0
        replace hx343_1 := pw_cell_below HB.out hx343_1
        replace p343 := eq_true p343
        replace q343 := eq_true q343
        refine start_ (n := 30) (S := fun w' => w'.cell? ⟨gb341, 0, none⟩ = some (.string ((rd_T59 l0_1 x4_2).f0)) ∧ w'.cell? ⟨gb341, 1, none⟩ = some (.int .i64 ((rd_T59 l0_1 x4_2).f1)) ∧ w'.cell? ⟨gb335, 0, none⟩ = some (.slice A0_0 l0_0.length c0_0) ∧ w'.cell? ⟨gb335, 1, none⟩ = some (.slice (some ad340) l0_1.length c0_1) ∧ w'.cell? (ad340.add (((ji46)).toNat * 2)) = some (.string ((rd_T59 l0_1 (ji46)).f0)) ∧ w'.cell? ⟨(ad340.add (((ji46)).toNat * 2)).block, (ad340.add (((ji46)).toNat * 2)).off + 1, none⟩ = some (.int .i64 ((rd_T59 l0_1 (ji46)).f1))) (ds := []) x16tr30_0 (by kernel_rfl) rfl rfl ⟨(blk_cell BK341.out 0).trans rfl, (blk_cell BK341.out 1).trans rfl, (blk_cell BK335.out 0).trans rfl, (blk_cell BK335.out 1).trans rfl, (pw_cell_below HB.out hw343_0), (pw_cell_below HB.out hw343_1)⟩ (fun hHeld => ?_); refine with_tabW cantonref07_Right.tab10 cantonref07_Right.bits10 (fun HT_ HW_ => ?_)
        generalize w54.drew = w55 at BK335 BK341 HB hx343_0 hx343_1 hHeld ⊢
        refine pA_ 0 52 x16tr30_1 HT_.out ?_
        refine tA_ 1 53 x16tr30_2 HT_.out HW_.out hHeld ?_
        refine one_ (i := 2) (N := some 54) x16tr30_3 rfl rfl (one_of HT_.out (by kernel_rfl)) (by decide) (fun K hK => ?_)
        refine goes_ Try.func29 (by kernel_rfl) rfl #[.string ((rd_T59 l0_1 x4_2).f0)] (by rfl) rfl rfl m_ ?_
        with_reducible refine (cantonref01_Right.calls k2 ((rd_T59 l0_1 x4_2).f0) true _ A27.out).mono ?_
        rintro e w56 ⟨rfl, hb⟩
        refine ⟨_, rfl, ?_⟩
        have n0_ := am_ (blk_below (kB BK335) hb)
        have n1_ := am_ (blk_below (kB BK341) hb)
        have n2_ := am_ (below_step (kZ HB) hb)
        clear BK335
        clear BK341
        clear HB
        have BK335 := n0_
        have BK341 := n1_
        have HB := n2_
        clear n0_ n1_ n2_
        (try clear hb)
        (try clear hb2)
        (try clear hk)
        (try clear hi)
        refine hK.out _ _ ⟨(blk_cell BK341.out 0).trans rfl, (blk_cell BK341.out 1).trans rfl, (blk_cell BK335.out 0).trans rfl, (blk_cell BK335.out 1).trans rfl, (pw_cell_below HB.out hw343_0), (pw_cell_below HB.out hw343_1)⟩ (fun hHeld => ?_)
        clear hK K
        refine norm_ (a' := ?_) ?_ ?_
        rotate_left
        ·show Act.put _ (some 54) _ = _
         simp only [Act.put, List.setIfInBounds_toArray, List.set_cons_zero, List.set_cons_succ, i64_w, i32_w]
         rfl
        refine pA_ 3 55 x16tr30_4 HT_.out ?_
        refine pA_ 4 56 x16tr30_5 HT_.out ?_
        refine pA_ 5 57 x16tr30_6 HT_.out ?_
        refine tA_ 6 58 x16tr30_7 HT_.out HW_.out hHeld ?_
        refine pA_ 7 59 x16tr30_8 HT_.out ?_
        refine pA_ 8 60 x16tr30_9 HT_.out ?_
        refine pA_ 9 61 x16tr30_10 HT_.out ?_
        refine pA_ 10 62 x16tr30_11 HT_.out ?_
        refine tA_ 11 63 x16tr30_12 HT_.out HW_.out hHeld ?_
        refine pA_ 12 64 x16tr30_13 HT_.out ?_
        refine pA_ 13 65 x16tr30_14 HT_.out ?_
        refine pA_ 14 66 x16tr30_15 HT_.out ?_
        refine pA_ 15 67 x16tr30_16 HT_.out ?_
        refine pA_ 16 68 x16tr30_17 HT_.out ?_
        refine pA_ 17 69 x16tr30_18 HT_.out ?_
        refine pA_ 18 70 x16tr30_19 HT_.out ?_
        refine pA_ 20 72 x16tr30_m111111111111111111101000000000 HT_.out ?_
        refine pA_ 21 73 x16tr30_m111111111111111111101100000000 HT_.out ?_
        refine pA_ 25 77 x16tr30_m111111111111111111101100010000 HT_.out ?_
        refine tA_ 19 71 x16tr30_m111111111111111111111100010000 HT_.out HW_.out hHeld ?_
        refine pA_ 22 74 x16tr30_m111111111111111111111110010000 HT_.out ?_
        refine pA_ 23 75 x16tr30_m111111111111111111111111010000 HT_.out ?_
        refine tA_ 24 76 x16tr30_26 HT_.out HW_.out hHeld ?_
        refine tA_ 26 78 x16tr30_27 HT_.out HW_.out hHeld ?_
        refine pA_ 27 79 x16tr30_28 HT_.out ?_
        refine pA_ 28 80 x16tr30_29 HT_.out ?_
        refine pA_ 29 81 x16tr30_30 HT_.out ?_
        refine done_ (done_of HT_.out (by kernel_rfl)) ?_
        try go_wp2
        go_roundg k2
        case measure => have := HK1.out; have := HK2.out; omega
        case rel => exact ⟨(wrap64 (x4_2 + 1)), e1_, H', ⟨by have := HK1.out; have := HK2.out; omega⟩, ⟨kB BK335⟩, ⟨kZ HB⟩⟩
       rw [if_pos c37] at H
       have c37b0 : decide (10000 < ((rd_T59 l0_1 x4_2).f1)) = true := decide_eq_true c37
       clear c37
       obtain rfl := Option.some.inj H
       have hcz38_0 : wr.cell? ⟨gb335, 0, none⟩ = some (.slice A0_0 l0_0.length c0_0) := (blk_cell BK335.out 0).trans rfl
       have hcz38_1 : wr.cell? ⟨gb335, 1, none⟩ = some (.slice A0_1 l0_1.length c0_1) := (blk_cell BK335.out 1).trans rfl
       have hfz38_0 := blk_frozen BK335.out 0
       have hfz38_1 := blk_frozen BK335.out 1
       have p340 : 0 ≤ (x4_2 : Int) := od_
       have q340 : x4_2 < (l0_1.length : Int) := od_
       obtain ⟨ad340, e340, hx340_0, hx340_1⟩ := at_T59 HR0_1.out x4_2 p340 q340
       cases e340
       replace hx340_0 := pw_cell_below HB.out hx340_0
       replace hx340_1 := pw_cell_below HB.out hx340_1
       replace p340 := eq_true p340
       replace q340 := eq_true q340
       try go_wp2_with (first | ((with_reducible refine gate_dst (N := 5) rfl ?_); refine box_event ?hg (N := 5) ?hd (cs := #[.string (⟨#[]⟩ : ByteArray), .int .i64 0]) (t := 59) ?hr ?_; (case hd => rfl); (case hg => rfl); (case hr => first | (go_simp; done) | (go_simp; rfl)); intro gb341 hg w39 hbox hb; have n0_ := am_ (blk_below (kB BK335) hb); have n1_ := am_ (below_step (kZ HB) hb); have n2_ := am_ (hbox); have n3_ := am_ (gW hg (kZ HB)); have n4_ := am_ (gW hg (kZ HB)); have n5_ := am_ (gN hg (kB BK335)); have n6_ := am_ (gM hg (kB BK335)); clear BK335; clear HB; have BK335 := n0_; have HB := n1_; have BK341 := n2_; have GW341 := n3_; have GE341 := n4_; have NB335_341 := n5_; have NB341_335 := n6_; clear n0_ n1_ n2_ n3_ n4_ n5_ n6_; clear hb hbox hg; have hnb40 := NB341_335.out; have hnc40 := NB335_341.out; have hcz41_0 : w39.cell? ⟨gb341, 0, none⟩ = some (.string (⟨#[]⟩ : ByteArray)) := (blk_cell BK341.out 0).trans rfl; have hcz41_1 : w39.cell? ⟨gb341, 1, none⟩ = some (.int .i64 0) := (blk_cell BK341.out 1).trans rfl; have hfz41_0 := blk_frozen BK341.out 0; have hfz41_1 := blk_frozen BK341.out 1))
       have n0_ : Aside0 (((w39.setCell ⟨gb341, 0, none⟩ (.string ((rd_T59 l0_1 x4_2).f0))).setCell ⟨gb341, 1, none⟩ (.int .i64 ((rd_T59 l0_1 x4_2).f1))).heap[gb335]? = some (.cells #[.slice A0_0 l0_0.length c0_0, .slice (some ad340) l0_1.length c0_1] 34 (0, 0))) := ⟨by refine kD ?_; refine blk_far ?_ NB335_341.out _; refine kD ?_; refine blk_far ?_ NB335_341.out _; refine kD ?_; exact BK335.out⟩
       have n1_ : Aside0 (((w39.setCell ⟨gb341, 0, none⟩ (.string ((rd_T59 l0_1 x4_2).f0))).setCell ⟨gb341, 1, none⟩ (.int .i64 ((rd_T59 l0_1 x4_2).f1))).heap[gb341]? = some (.cells #[.string ((rd_T59 l0_1 x4_2).f0), .int .i64 ((rd_T59 l0_1 x4_2).f1)] 59 (0, 0))) := ⟨by refine kD ?_; refine blk_put (cs := #[.string ((rd_T59 l0_1 x4_2).f0), .int .i64 0]) ?_ 1 _ rfl; refine kD ?_; refine blk_put (cs := #[.string (⟨#[]⟩ : ByteArray), .int .i64 0]) ?_ 0 _ rfl; refine kD ?_; exact BK341.out⟩
       have n2_ : Aside0 (Below w.heap.size w ((w39.setCell ⟨gb341, 0, none⟩ (.string ((rd_T59 l0_1 x4_2).f0))).setCell ⟨gb341, 1, none⟩ (.int .i64 ((rd_T59 l0_1 x4_2).f1)))) := ⟨kZ HB⟩
       (try clear BK335)
       (try clear BK341)
       (try clear HB)
       generalize ((w39.setCell ⟨gb341, 0, none⟩ (.string ((rd_T59 l0_1 x4_2).f0))).setCell ⟨gb341, 1, none⟩ (.int .i64 ((rd_T59 l0_1 x4_2).f1))) = w42 at n0_ n1_ n2_ ⊢
       have BK335 := n0_
       have BK341 := n1_
       have HB := n2_
       clear n0_ n1_ n2_
       have n0_ := am_ (blk_drew BK335.out)
       have n1_ := am_ (blk_drew BK341.out)
       have n2_ := am_ (below_drew1 HB.out)
       clear BK335
       clear BK341
       clear HB
       have BK335 := n0_
       have BK341 := n1_
       have HB := n2_
       clear n0_ n1_ n2_
       refine start_ (n := 30) (S := fun w' => w'.cell? ⟨gb341, 0, none⟩ = some (.string ((rd_T59 l0_1 x4_2).f0)) ∧ w'.cell? ⟨gb341, 1, none⟩ = some (.int .i64 ((rd_T59 l0_1 x4_2).f1))) (ds := []) x16tr30_0 (by kernel_rfl) rfl rfl ⟨(blk_cell BK341.out 0).trans rfl, (blk_cell BK341.out 1).trans rfl⟩ (fun hHeld => ?_); refine with_tabW cantonref07_Right.tab10 cantonref07_Right.bits10 (fun HT_ HW_ => ?_)
       generalize w42.drew = w43 at BK335 BK341 HB hHeld ⊢
       refine pA_ 0 52 x16tr30_1 HT_.out ?_
       refine tA_ 1 53 x16tr30_2 HT_.out HW_.out hHeld ?_
       refine one_ (i := 2) (N := some 54) x16tr30_3 rfl rfl (one_of HT_.out (by kernel_rfl)) (by decide) (fun K hK => ?_)
       refine goes_ Try.func29 (by kernel_rfl) rfl #[.string ((rd_T59 l0_1 x4_2).f0)] (by rfl) rfl rfl m_ ?_
       with_reducible refine (cantonref01_Right.calls k2 ((rd_T59 l0_1 x4_2).f0) true _ A27.out).mono ?_
       rintro e w44 ⟨rfl, hb⟩
       refine ⟨_, rfl, ?_⟩
       have n0_ := am_ (blk_below (kB BK335) hb)
       have n1_ := am_ (blk_below (kB BK341) hb)
       have n2_ := am_ (below_step (kZ HB) hb)
       clear BK335
       clear BK341
       clear HB
       have BK335 := n0_
       have BK341 := n1_
       have HB := n2_
       clear n0_ n1_ n2_
       (try clear hb)
       (try clear hb2)
       (try clear hk)
       (try clear hi)
       refine hK.out _ _ ⟨(blk_cell BK341.out 0).trans rfl, (blk_cell BK341.out 1).trans rfl⟩ (fun hHeld => ?_)
       clear hK K
       refine norm_ (a' := ?_) ?_ ?_
       rotate_left
       ·show Act.put _ (some 54) _ = _
        simp only [Act.put, List.setIfInBounds_toArray, List.set_cons_zero, List.set_cons_succ, i64_w, i32_w]
        rfl
       refine pA_ 3 55 x16tr30_4 HT_.out ?_
       refine pA_ 4 56 x16tr30_5 HT_.out ?_
       refine pA_ 5 57 x16tr30_6 HT_.out ?_
       refine tA_ 6 58 x16tr30_7 HT_.out HW_.out hHeld ?_
       refine pA_ 7 59 x16tr30_8 HT_.out ?_
       refine pA_ 8 60 x16tr30_9 HT_.out ?_
       refine pA_ 9 61 x16tr30_10 HT_.out ?_
       refine pA_ 10 62 x16tr30_11 HT_.out ?_
       refine tA_ 11 63 x16tr30_12 HT_.out HW_.out hHeld ?_
       refine pA_ 12 64 x16tr30_13 HT_.out ?_
       refine pA_ 13 65 x16tr30_14 HT_.out ?_
       refine pA_ 14 66 x16tr30_15 HT_.out ?_
       refine pU_ 15 67 x16tr30_16 HT_.out ?_
       refine pU_ 16 68 x16tr30_17 HT_.out ?_
       refine pU_ 17 69 x16tr30_18 HT_.out ?_
       refine pU_ 18 70 x16tr30_19 HT_.out ?_
       refine pU_ 19 71 x16tr30_20 HT_.out ?_
       refine pU_ 20 72 x16tr30_21 HT_.out ?_
       refine pU_ 21 73 x16tr30_22 HT_.out ?_
       refine pU_ 22 74 x16tr30_23 HT_.out ?_
       refine pU_ 23 75 x16tr30_24 HT_.out ?_
       refine pU_ 24 76 x16tr30_25 HT_.out ?_
       refine pU_ 25 77 x16tr30_26 HT_.out ?_
       refine pU_ 26 78 x16tr30_27 HT_.out ?_
       refine pU_ 27 79 x16tr30_28 HT_.out ?_
       refine pU_ 28 80 x16tr30_29 HT_.out ?_
       refine pA_ 29 81 x16tr30_30 HT_.out ?_
       refine done_ (done_of HT_.out (by kernel_rfl)) ?_
       try go_wp2
       go_ret
       exact ⟨e2_, kZ HB⟩
      rw [if_pos c29] at H
      have c29b0 : decide (((rd_T59 l0_1 x4_2).f1) < 1) = true := decide_eq_true c29
      clear c29
      obtain rfl := Option.some.inj H
      have hcz30_0 : wr.cell? ⟨gb335, 0, none⟩ = some (.slice A0_0 l0_0.length c0_0) := (blk_cell BK335.out 0).trans rfl
      have hcz30_1 : wr.cell? ⟨gb335, 1, none⟩ = some (.slice A0_1 l0_1.length c0_1) := (blk_cell BK335.out 1).trans rfl
      have hfz30_0 := blk_frozen BK335.out 0
      have hfz30_1 := blk_frozen BK335.out 1
      have p340 : 0 ≤ (x4_2 : Int) := od_
      have q340 : x4_2 < (l0_1.length : Int) := od_
      obtain ⟨ad340, e340, hx340_0, hx340_1⟩ := at_T59 HR0_1.out x4_2 p340 q340
      cases e340
      replace hx340_0 := pw_cell_below HB.out hx340_0
      replace hx340_1 := pw_cell_below HB.out hx340_1
      replace p340 := eq_true p340
      replace q340 := eq_true q340
      try go_wp2_with (first | ((with_reducible refine gate_dst (N := 5) rfl ?_); refine box_event ?hg (N := 5) ?hd (cs := #[.string (⟨#[]⟩ : ByteArray), .int .i64 0]) (t := 59) ?hr ?_; (case hd => rfl); (case hg => rfl); (case hr => first | (go_simp; done) | (go_simp; rfl)); intro gb341 hg w31 hbox hb; have n0_ := am_ (blk_below (kB BK335) hb); have n1_ := am_ (below_step (kZ HB) hb); have n2_ := am_ (hbox); have n3_ := am_ (gW hg (kZ HB)); have n4_ := am_ (gW hg (kZ HB)); have n5_ := am_ (gN hg (kB BK335)); have n6_ := am_ (gM hg (kB BK335)); clear BK335; clear HB; have BK335 := n0_; have HB := n1_; have BK341 := n2_; have GW341 := n3_; have GE341 := n4_; have NB335_341 := n5_; have NB341_335 := n6_; clear n0_ n1_ n2_ n3_ n4_ n5_ n6_; clear hb hbox hg; have hnb32 := NB341_335.out; have hnc32 := NB335_341.out; have hcz33_0 : w31.cell? ⟨gb341, 0, none⟩ = some (.string (⟨#[]⟩ : ByteArray)) := (blk_cell BK341.out 0).trans rfl; have hcz33_1 : w31.cell? ⟨gb341, 1, none⟩ = some (.int .i64 0) := (blk_cell BK341.out 1).trans rfl; have hfz33_0 := blk_frozen BK341.out 0; have hfz33_1 := blk_frozen BK341.out 1))
      have n0_ : Aside0 (((w31.setCell ⟨gb341, 0, none⟩ (.string ((rd_T59 l0_1 x4_2).f0))).setCell ⟨gb341, 1, none⟩ (.int .i64 ((rd_T59 l0_1 x4_2).f1))).heap[gb335]? = some (.cells #[.slice A0_0 l0_0.length c0_0, .slice (some ad340) l0_1.length c0_1] 34 (0, 0))) := ⟨by refine kD ?_; refine blk_far ?_ NB335_341.out _; refine kD ?_; refine blk_far ?_ NB335_341.out _; refine kD ?_; exact BK335.out⟩
      have n1_ : Aside0 (((w31.setCell ⟨gb341, 0, none⟩ (.string ((rd_T59 l0_1 x4_2).f0))).setCell ⟨gb341, 1, none⟩ (.int .i64 ((rd_T59 l0_1 x4_2).f1))).heap[gb341]? = some (.cells #[.string ((rd_T59 l0_1 x4_2).f0), .int .i64 ((rd_T59 l0_1 x4_2).f1)] 59 (0, 0))) := ⟨by refine kD ?_; refine blk_put (cs := #[.string ((rd_T59 l0_1 x4_2).f0), .int .i64 0]) ?_ 1 _ rfl; refine kD ?_; refine blk_put (cs := #[.string (⟨#[]⟩ : ByteArray), .int .i64 0]) ?_ 0 _ rfl; refine kD ?_; exact BK341.out⟩
      have n2_ : Aside0 (Below w.heap.size w ((w31.setCell ⟨gb341, 0, none⟩ (.string ((rd_T59 l0_1 x4_2).f0))).setCell ⟨gb341, 1, none⟩ (.int .i64 ((rd_T59 l0_1 x4_2).f1)))) := ⟨kZ HB⟩
      (try clear BK335)
      (try clear BK341)
      (try clear HB)
      generalize ((w31.setCell ⟨gb341, 0, none⟩ (.string ((rd_T59 l0_1 x4_2).f0))).setCell ⟨gb341, 1, none⟩ (.int .i64 ((rd_T59 l0_1 x4_2).f1))) = w34 at n0_ n1_ n2_ ⊢
      have BK335 := n0_
      have BK341 := n1_
      have HB := n2_
      clear n0_ n1_ n2_
      have n0_ := am_ (blk_drew BK335.out)
      have n1_ := am_ (blk_drew BK341.out)
      have n2_ := am_ (below_drew1 HB.out)
      clear BK335
      clear BK341
      clear HB
      have BK335 := n0_
      have BK341 := n1_
      have HB := n2_
      clear n0_ n1_ n2_
      refine start_ (n := 30) (S := fun w' => w'.cell? ⟨gb341, 0, none⟩ = some (.string ((rd_T59 l0_1 x4_2).f0)) ∧ w'.cell? ⟨gb341, 1, none⟩ = some (.int .i64 ((rd_T59 l0_1 x4_2).f1))) (ds := []) x16tr30_0 (by kernel_rfl) rfl rfl ⟨(blk_cell BK341.out 0).trans rfl, (blk_cell BK341.out 1).trans rfl⟩ (fun hHeld => ?_); refine with_tabW cantonref07_Right.tab10 cantonref07_Right.bits10 (fun HT_ HW_ => ?_)
      generalize w34.drew = w35 at BK335 BK341 HB hHeld ⊢
      refine pA_ 0 52 x16tr30_1 HT_.out ?_
      refine tA_ 1 53 x16tr30_2 HT_.out HW_.out hHeld ?_
      refine one_ (i := 2) (N := some 54) x16tr30_3 rfl rfl (one_of HT_.out (by kernel_rfl)) (by decide) (fun K hK => ?_)
      refine goes_ Try.func29 (by kernel_rfl) rfl #[.string ((rd_T59 l0_1 x4_2).f0)] (by rfl) rfl rfl m_ ?_
      with_reducible refine (cantonref01_Right.calls k2 ((rd_T59 l0_1 x4_2).f0) true _ A27.out).mono ?_
      rintro e w36 ⟨rfl, hb⟩
      refine ⟨_, rfl, ?_⟩
      have n0_ := am_ (blk_below (kB BK335) hb)
      have n1_ := am_ (blk_below (kB BK341) hb)
      have n2_ := am_ (below_step (kZ HB) hb)
      clear BK335
      clear BK341
      clear HB
      have BK335 := n0_
      have BK341 := n1_
      have HB := n2_
      clear n0_ n1_ n2_
      (try clear hb)
      (try clear hb2)
      (try clear hk)
      (try clear hi)
      refine hK.out _ _ ⟨(blk_cell BK341.out 0).trans rfl, (blk_cell BK341.out 1).trans rfl⟩ (fun hHeld => ?_)
      clear hK K
      refine norm_ (a' := ?_) ?_ ?_
      rotate_left
      ·show Act.put _ (some 54) _ = _
       simp only [Act.put, List.setIfInBounds_toArray, List.set_cons_zero, List.set_cons_succ, i64_w, i32_w]
       rfl
      refine pA_ 3 55 x16tr30_4 HT_.out ?_
      refine pA_ 4 56 x16tr30_5 HT_.out ?_
      refine pA_ 5 57 x16tr30_6 HT_.out ?_
      refine tA_ 6 58 x16tr30_7 HT_.out HW_.out hHeld ?_
      refine pA_ 7 59 x16tr30_8 HT_.out ?_
      refine pA_ 8 60 x16tr30_9 HT_.out ?_
      refine pA_ 9 61 x16tr30_10 HT_.out ?_
      refine pU_ 10 62 x16tr30_11 HT_.out ?_
      refine pU_ 11 63 x16tr30_12 HT_.out ?_
      refine pU_ 12 64 x16tr30_13 HT_.out ?_
      refine pA_ 13 65 x16tr30_14 HT_.out ?_
      refine pA_ 14 66 x16tr30_15 HT_.out ?_
      refine pU_ 15 67 x16tr30_16 HT_.out ?_
      refine pU_ 16 68 x16tr30_17 HT_.out ?_
      refine pU_ 17 69 x16tr30_18 HT_.out ?_
      refine pU_ 18 70 x16tr30_19 HT_.out ?_
      refine pU_ 19 71 x16tr30_20 HT_.out ?_
      refine pU_ 20 72 x16tr30_21 HT_.out ?_
      refine pU_ 21 73 x16tr30_22 HT_.out ?_
      refine pU_ 22 74 x16tr30_23 HT_.out ?_
      refine pU_ 23 75 x16tr30_24 HT_.out ?_
      refine pU_ 24 76 x16tr30_25 HT_.out ?_
      refine pU_ 25 77 x16tr30_26 HT_.out ?_
      refine pU_ 26 78 x16tr30_27 HT_.out ?_
      refine pU_ 27 79 x16tr30_28 HT_.out ?_
      refine pU_ 28 80 x16tr30_29 HT_.out ?_
      refine pA_ 29 81 x16tr30_30 HT_.out ?_
      refine done_ (done_of HT_.out (by kernel_rfl)) ?_
      try go_wp2
      go_ret
      exact ⟨e2_, kZ HB⟩
   rw [if_pos c3] at H
   have c3b0 : decide (x3_1 < (l0_0.length : Int)) = true := decide_eq_true c3
   clear c3
   by_cases c4 : 0 ≤ x3_1
   rotate_left
   ·rw [if_neg c4] at H
    exact absurd H (by simp)
   rw [if_pos c4] at H
   have c4b0 : decide (0 ≤ x3_1) = true := decide_eq_true c4
   clear c4
   replace H := Option.bind_eq_some_iff.mp H
   obtain ⟨t337, A50, H⟩ := H
   replace H : (if t337 = true then (if x3_1 > 0 then (if 0 ≤ (wrap64 (x3_1 - 1)) then (if (wrap64 (x3_1 - 1)) < (l0_0.length : Int) then (if ((Op.bytesLess (((rd_T40 l0_0 (wrap64 (x3_1 - 1))).f0).toList) (((rd_T40 l0_0 x3_1).f0).toList)) = true) then (cantonref07_Right.l0 k1 (wrap64 (x3_1 + 1)) l0_0 l0_1) else (some false)) else (none)) else (none)) else (cantonref07_Right.l0 k1 (wrap64 (x3_1 + 1)) l0_0 l0_1)) else (some false)) = some r := H
   have A5 := am_ A50
   clear A50
   by_cases c6 : t337 = true
   rotate_left
   ·replace c6 := Bool.eq_false_iff.mpr c6
    subst c6
    have H1 : (some false) = some r := by rw [if_neg (show ¬ (false = true) by decide)] at H; exact H
    clear H
    have H := H1
    clear H1
    obtain rfl := Option.some.inj H
    have hcz21_0 : wr.cell? ⟨gb335, 0, none⟩ = some (.slice A0_0 l0_0.length c0_0) := (blk_cell BK335.out 0).trans rfl
    have hcz21_1 : wr.cell? ⟨gb335, 1, none⟩ = some (.slice A0_1 l0_1.length c0_1) := (blk_cell BK335.out 1).trans rfl
    have hfz21_0 := blk_frozen BK335.out 0
    have hfz21_1 := blk_frozen BK335.out 1
    try go_wp2
    have n0_ := am_ (blk_drew BK335.out)
    have n1_ := am_ (below_drew1 HB.out)
    clear BK335
    clear HB
    have BK335 := n0_
    have HB := n1_
    clear n0_ n1_
    have p336 : 0 ≤ (x3_1 : Int) := od_
    have q336 : x3_1 < (l0_0.length : Int) := od_
    obtain ⟨ad336, e336, hx336_0, hx336_1, hx336_2, hx336_3, hx336_4⟩ := at_T40 HR0_0.out x3_1 p336 q336
    have hw336_4 := hx336_4
    have hw336_3 := hx336_3
    have hw336_2 := hx336_2
    have hw336_1 := hx336_1
    have hw336_0 := hx336_0
    cases e336
    replace hx336_0 := pw_cell_below HB.out hx336_0
    replace hx336_1 := pw_cell_below HB.out hx336_1
    replace hx336_2 := pw_cell_below HB.out hx336_2
    replace hx336_3 := pw_cell_below HB.out hx336_3
    replace hx336_4 := pw_cell_below HB.out hx336_4
    replace p336 := eq_true p336
    replace q336 := eq_true q336
    refine start_ (n := 27) (S := fun w' => w'.cell? ⟨gb335, 0, none⟩ = some (.slice (some ad336) l0_0.length c0_0) ∧ w'.cell? ⟨gb335, 1, none⟩ = some (.slice A0_1 l0_1.length c0_1) ∧ w'.cell? (ad336.add ((x3_1).toNat * 5)) = some (.string ((rd_T40 l0_0 x3_1).f0)) ∧ w'.cell? ⟨(ad336.add ((x3_1).toNat * 5)).block, (ad336.add ((x3_1).toNat * 5)).off + 1, none⟩ = some (.string ((rd_T40 l0_0 x3_1).f1)) ∧ w'.cell? ⟨(ad336.add ((x3_1).toNat * 5)).block, (ad336.add ((x3_1).toNat * 5)).off + 2, none⟩ = some (.int .i64 ((rd_T40 l0_0 x3_1).f2)) ∧ w'.cell? ⟨(ad336.add ((x3_1).toNat * 5)).block, (ad336.add ((x3_1).toNat * 5)).off + 3, none⟩ = some (.int .i64 ((rd_T40 l0_0 x3_1).f3)) ∧ w'.cell? ⟨(ad336.add ((x3_1).toNat * 5)).block, (ad336.add ((x3_1).toNat * 5)).off + 4, none⟩ = some (.int .i64 ((rd_T40 l0_0 x3_1).f4))) (ds := []) x16tr27_0 (by kernel_rfl) rfl rfl ⟨(blk_cell BK335.out 0).trans rfl, (blk_cell BK335.out 1).trans rfl, (pw_cell_below HB.out hw336_0), (pw_cell_below HB.out hw336_1), (pw_cell_below HB.out hw336_2), (pw_cell_below HB.out hw336_3), (pw_cell_below HB.out hw336_4)⟩ (fun hHeld => ?_); refine with_tabW cantonref07_Right.tab4 cantonref07_Right.bits4 (fun HT_ HW_ => ?_)
    generalize wr.drew = w22 at BK335 HB hx336_0 hx336_1 hx336_2 hx336_3 hx336_4 hHeld ⊢
    refine pA_ 0 13 x16tr27_1 HT_.out ?_
    refine pA_ 2 15 x16tr27_m101000000000000000000000000 HT_.out ?_
    refine tA_ 1 14 x16tr27_3 HT_.out HW_.out hHeld ?_
    refine pA_ 3 16 x16tr27_4 HT_.out ?_
    refine tA_ 4 17 x16tr27_5 HT_.out HW_.out hHeld ?_
    refine one_ (i := 5) (N := some 18) x16tr27_6 rfl rfl (one_of HT_.out (by kernel_rfl)) (by decide) (fun K hK => ?_)
    refine goes_ Try.func48 (by kernel_rfl) rfl #[.agg #[.string ((rd_T40 l0_0 x3_1).f0), .string ((rd_T40 l0_0 x3_1).f1), .int .i64 ((rd_T40 l0_0 x3_1).f2), .int .i64 ((rd_T40 l0_0 x3_1).f3), .int .i64 ((rd_T40 l0_0 x3_1).f4)]] (by rfl) rfl rfl m_ ?_
    with_reducible refine (cantonref07_node.calls k1 ((rd_T40 l0_0 x3_1).f0) ((rd_T40 l0_0 x3_1).f1) ((rd_T40 l0_0 x3_1).f2) ((rd_T40 l0_0 x3_1).f3) ((rd_T40 l0_0 x3_1).f4) false _ A5.out).mono ?_
    rintro e w23 ⟨rfl, hb⟩
    refine ⟨_, rfl, ?_⟩
    have n0_ := am_ (blk_below (kB BK335) hb)
    have n1_ := am_ (below_step (kZ HB) hb)
    clear BK335
    clear HB
    have BK335 := n0_
    have HB := n1_
    clear n0_ n1_
    (try clear hb)
    (try clear hb2)
    (try clear hk)
    (try clear hi)
    refine hK.out _ _ ⟨(blk_cell BK335.out 0).trans rfl, (blk_cell BK335.out 1).trans rfl, (pw_cell_below HB.out hw336_0), (pw_cell_below HB.out hw336_1), (pw_cell_below HB.out hw336_2), (pw_cell_below HB.out hw336_3), (pw_cell_below HB.out hw336_4)⟩ (fun hHeld => ?_)
    clear hK K
    refine norm_ (a' := ?_) ?_ ?_
    rotate_left
    ·show Act.put _ (some 18) _ = _
     simp only [Act.put, List.setIfInBounds_toArray, List.set_cons_zero, List.set_cons_succ, i64_w, i32_w]
     rfl
    refine pA_ 6 19 x16tr27_7 HT_.out ?_
    refine pA_ 7 20 x16tr27_8 HT_.out ?_
    refine pU_ 8 21 x16tr27_9 HT_.out ?_
    refine pU_ 9 22 x16tr27_10 HT_.out ?_
    refine pU_ 10 23 x16tr27_11 HT_.out ?_
    refine pU_ 11 24 x16tr27_12 HT_.out ?_
    refine pU_ 12 25 x16tr27_13 HT_.out ?_
    refine pU_ 13 26 x16tr27_14 HT_.out ?_
    refine pU_ 14 27 x16tr27_15 HT_.out ?_
    refine pU_ 15 28 x16tr27_16 HT_.out ?_
    refine pU_ 16 29 x16tr27_17 HT_.out ?_
    refine pU_ 17 30 x16tr27_18 HT_.out ?_
    refine pU_ 18 31 x16tr27_19 HT_.out ?_
    refine pU_ 19 32 x16tr27_20 HT_.out ?_
    refine pU_ 20 33 x16tr27_21 HT_.out ?_
    refine pU_ 21 34 x16tr27_22 HT_.out ?_
    refine pU_ 22 35 x16tr27_23 HT_.out ?_
    refine pU_ 23 36 x16tr27_24 HT_.out ?_
    refine pU_ 24 37 x16tr27_25 HT_.out ?_
    refine pU_ 25 38 x16tr27_26 HT_.out ?_
    refine pA_ 26 39 x16tr27_27 HT_.out ?_
    refine done_ (done_of HT_.out (by kernel_rfl)) ?_
    try go_wp2
    go_ret
    exact ⟨e2_, kZ HB⟩
   subst c6
   have H1 : (if x3_1 > 0 then (if 0 ≤ (wrap64 (x3_1 - 1)) then (if (wrap64 (x3_1 - 1)) < (l0_0.length : Int) then (if ((Op.bytesLess (((rd_T40 l0_0 (wrap64 (x3_1 - 1))).f0).toList) (((rd_T40 l0_0 x3_1).f0).toList)) = true) then (cantonref07_Right.l0 k1 (wrap64 (x3_1 + 1)) l0_0 l0_1) else (some false)) else (none)) else (none)) else (cantonref07_Right.l0 k1 (wrap64 (x3_1 + 1)) l0_0 l0_1)) = some r := by rw [if_pos rfl] at H; exact H
   clear H
   have H := H1
   clear H1
   by_cases c7 : x3_1 > 0
   rotate_left
   ·rw [if_neg c7] at H
    have c7b0 : decide (0 < x3_1) = false := decide_eq_false c7
    clear c7
    have H' := am_ H
    clear H
    have hcz18_0 : wr.cell? ⟨gb335, 0, none⟩ = some (.slice A0_0 l0_0.length c0_0) := (blk_cell BK335.out 0).trans rfl
    have hcz18_1 : wr.cell? ⟨gb335, 1, none⟩ = some (.slice A0_1 l0_1.length c0_1) := (blk_cell BK335.out 1).trans rfl
    have hfz18_0 := blk_frozen BK335.out 0
    have hfz18_1 := blk_frozen BK335.out 1
    try go_wp2
    have n0_ := am_ (blk_drew BK335.out)
    have n1_ := am_ (below_drew1 HB.out)
    clear BK335
    clear HB
    have BK335 := n0_
    have HB := n1_
    clear n0_ n1_
    have p336 : 0 ≤ (x3_1 : Int) := od_
    have q336 : x3_1 < (l0_0.length : Int) := od_
    obtain ⟨ad336, e336, hx336_0, hx336_1, hx336_2, hx336_3, hx336_4⟩ := at_T40 HR0_0.out x3_1 p336 q336
    have hw336_4 := hx336_4
    have hw336_3 := hx336_3
    have hw336_2 := hx336_2
    have hw336_1 := hx336_1
    have hw336_0 := hx336_0
    cases e336
    replace hx336_0 := pw_cell_below HB.out hx336_0
    replace hx336_1 := pw_cell_below HB.out hx336_1
    replace hx336_2 := pw_cell_below HB.out hx336_2
    replace hx336_3 := pw_cell_below HB.out hx336_3
    replace hx336_4 := pw_cell_below HB.out hx336_4
    replace p336 := eq_true p336
    replace q336 := eq_true q336
    refine start_ (n := 27) (S := fun w' => w'.cell? ⟨gb335, 0, none⟩ = some (.slice (some ad336) l0_0.length c0_0) ∧ w'.cell? ⟨gb335, 1, none⟩ = some (.slice A0_1 l0_1.length c0_1) ∧ w'.cell? (ad336.add ((x3_1).toNat * 5)) = some (.string ((rd_T40 l0_0 x3_1).f0)) ∧ w'.cell? ⟨(ad336.add ((x3_1).toNat * 5)).block, (ad336.add ((x3_1).toNat * 5)).off + 1, none⟩ = some (.string ((rd_T40 l0_0 x3_1).f1)) ∧ w'.cell? ⟨(ad336.add ((x3_1).toNat * 5)).block, (ad336.add ((x3_1).toNat * 5)).off + 2, none⟩ = some (.int .i64 ((rd_T40 l0_0 x3_1).f2)) ∧ w'.cell? ⟨(ad336.add ((x3_1).toNat * 5)).block, (ad336.add ((x3_1).toNat * 5)).off + 3, none⟩ = some (.int .i64 ((rd_T40 l0_0 x3_1).f3)) ∧ w'.cell? ⟨(ad336.add ((x3_1).toNat * 5)).block, (ad336.add ((x3_1).toNat * 5)).off + 4, none⟩ = some (.int .i64 ((rd_T40 l0_0 x3_1).f4))) (ds := []) x16tr27_0 (by kernel_rfl) rfl rfl ⟨(blk_cell BK335.out 0).trans rfl, (blk_cell BK335.out 1).trans rfl, (pw_cell_below HB.out hw336_0), (pw_cell_below HB.out hw336_1), (pw_cell_below HB.out hw336_2), (pw_cell_below HB.out hw336_3), (pw_cell_below HB.out hw336_4)⟩ (fun hHeld => ?_); refine with_tabW cantonref07_Right.tab4 cantonref07_Right.bits4 (fun HT_ HW_ => ?_)
    generalize wr.drew = w19 at BK335 HB hx336_0 hx336_1 hx336_2 hx336_3 hx336_4 hHeld ⊢
    refine pA_ 0 13 x16tr27_1 HT_.out ?_
    refine pA_ 2 15 x16tr27_m101000000000000000000000000 HT_.out ?_
    refine tA_ 1 14 x16tr27_3 HT_.out HW_.out hHeld ?_
    refine pA_ 3 16 x16tr27_4 HT_.out ?_
    refine tA_ 4 17 x16tr27_5 HT_.out HW_.out hHeld ?_
    refine one_ (i := 5) (N := some 18) x16tr27_6 rfl rfl (one_of HT_.out (by kernel_rfl)) (by decide) (fun K hK => ?_)
    refine goes_ Try.func48 (by kernel_rfl) rfl #[.agg #[.string ((rd_T40 l0_0 x3_1).f0), .string ((rd_T40 l0_0 x3_1).f1), .int .i64 ((rd_T40 l0_0 x3_1).f2), .int .i64 ((rd_T40 l0_0 x3_1).f3), .int .i64 ((rd_T40 l0_0 x3_1).f4)]] (by rfl) rfl rfl m_ ?_
    with_reducible refine (cantonref07_node.calls k1 ((rd_T40 l0_0 x3_1).f0) ((rd_T40 l0_0 x3_1).f1) ((rd_T40 l0_0 x3_1).f2) ((rd_T40 l0_0 x3_1).f3) ((rd_T40 l0_0 x3_1).f4) true _ A5.out).mono ?_
    rintro e w20 ⟨rfl, hb⟩
    refine ⟨_, rfl, ?_⟩
    have n0_ := am_ (blk_below (kB BK335) hb)
    have n1_ := am_ (below_step (kZ HB) hb)
    clear BK335
    clear HB
    have BK335 := n0_
    have HB := n1_
    clear n0_ n1_
    (try clear hb)
    (try clear hb2)
    (try clear hk)
    (try clear hi)
    refine hK.out _ _ ⟨(blk_cell BK335.out 0).trans rfl, (blk_cell BK335.out 1).trans rfl, (pw_cell_below HB.out hw336_0), (pw_cell_below HB.out hw336_1), (pw_cell_below HB.out hw336_2), (pw_cell_below HB.out hw336_3), (pw_cell_below HB.out hw336_4)⟩ (fun hHeld => ?_)
    clear hK K
    refine norm_ (a' := ?_) ?_ ?_
    rotate_left
    ·show Act.put _ (some 18) _ = _
     simp only [Act.put, List.setIfInBounds_toArray, List.set_cons_zero, List.set_cons_succ, i64_w, i32_w]
     rfl
    refine pA_ 6 19 x16tr27_7 HT_.out ?_
    refine pA_ 7 20 x16tr27_8 HT_.out ?_
    refine pA_ 8 21 x16tr27_9 HT_.out ?_
    refine pA_ 9 22 x16tr27_10 HT_.out ?_
    refine pA_ 10 23 x16tr27_11 HT_.out ?_
    refine pU_ 11 24 x16tr27_12 HT_.out ?_
    refine pU_ 12 25 x16tr27_13 HT_.out ?_
    refine pU_ 13 26 x16tr27_14 HT_.out ?_
    refine pU_ 14 27 x16tr27_15 HT_.out ?_
    refine pU_ 15 28 x16tr27_16 HT_.out ?_
    refine pU_ 16 29 x16tr27_17 HT_.out ?_
    refine pU_ 17 30 x16tr27_18 HT_.out ?_
    refine pU_ 18 31 x16tr27_19 HT_.out ?_
    refine pU_ 19 32 x16tr27_20 HT_.out ?_
    refine pU_ 20 33 x16tr27_21 HT_.out ?_
    refine pU_ 21 34 x16tr27_22 HT_.out ?_
    refine pU_ 22 35 x16tr27_23 HT_.out ?_
    refine pU_ 23 36 x16tr27_24 HT_.out ?_
    refine pU_ 24 37 x16tr27_25 HT_.out ?_
    refine pA_ 25 38 x16tr27_26 HT_.out ?_
    refine pA_ 26 39 x16tr27_27 HT_.out ?_
    refine done_ (done_of HT_.out (by kernel_rfl)) ?_
    try go_wp2
    go_roundg k1
    case measure => have := HK1.out; omega
    case rel => exact ⟨(wrap64 (x3_1 + 1)), e1_, H', ⟨by have := HK1.out; omega⟩, ⟨kB BK335⟩, ⟨kZ HB⟩⟩
   rw [if_pos c7] at H
   have c7b0 : decide (0 < x3_1) = true := decide_eq_true c7
   clear c7
   obtain ⟨ji8, hji8⟩ : ∃ j_ : Int, (wrap64 (x3_1 - 1)) = j_ := ⟨_, rfl⟩
   replace H : (if 0 ≤ (ji8) then (if (ji8) < (l0_0.length : Int) then (if ((Op.bytesLess (((rd_T40 l0_0 (ji8)).f0).toList) (((rd_T40 l0_0 x3_1).f0).toList)) = true) then (cantonref07_Right.l0 k1 (wrap64 (x3_1 + 1)) l0_0 l0_1) else (some false)) else (none)) else (none)) = some r := by first | (rw [hji8] at H; exact H) | (simp only [hji8] at H ⊢; exact H)
   (try rw [hji8] at A5)
   have hji8w : (IntKind.i64.wrap (x3_1 - 1)) = ji8 := (i64_w _).trans hji8
   by_cases c9 : 0 ≤ (ji8)
   rotate_left
   ·rw [if_neg c9] at H
    exact absurd H (by simp)
   rw [if_pos c9] at H
   have c9b0 : decide (0 ≤ (ji8)) = true := decide_eq_true c9
   clear c9
   by_cases c10 : (ji8) < (l0_0.length : Int)
   rotate_left
   ·rw [if_neg c10] at H
    exact absurd H (by simp)
   rw [if_pos c10] at H
   have c10b0 : decide ((ji8) < (l0_0.length : Int)) = true := decide_eq_true c10
   clear c10
   by_cases c11 : ((Op.bytesLess (((rd_T40 l0_0 (ji8)).f0).toList) (((rd_T40 l0_0 x3_1).f0).toList)) = true)
   rotate_left
   ·rw [if_neg c11] at H
    have c11b0 : (Op.bytesLess (((rd_T40 l0_0 (ji8)).f0).toList) (((rd_T40 l0_0 x3_1).f0).toList)) = false := by simpa using c11
    clear c11
    obtain rfl := Option.some.inj H
    have hcz15_0 : wr.cell? ⟨gb335, 0, none⟩ = some (.slice A0_0 l0_0.length c0_0) := (blk_cell BK335.out 0).trans rfl
    have hcz15_1 : wr.cell? ⟨gb335, 1, none⟩ = some (.slice A0_1 l0_1.length c0_1) := (blk_cell BK335.out 1).trans rfl
    have hfz15_0 := blk_frozen BK335.out 0
    have hfz15_1 := blk_frozen BK335.out 1
    try go_wp2
    have n0_ := am_ (blk_drew BK335.out)
    have n1_ := am_ (below_drew1 HB.out)
    clear BK335
    clear HB
    have BK335 := n0_
    have HB := n1_
    clear n0_ n1_
    have p336 : 0 ≤ (x3_1 : Int) := od_
    have q336 : x3_1 < (l0_0.length : Int) := od_
    obtain ⟨ad336, e336, hx336_0, hx336_1, hx336_2, hx336_3, hx336_4⟩ := at_T40 HR0_0.out x3_1 p336 q336
    have hw336_4 := hx336_4
    have hw336_3 := hx336_3
    have hw336_2 := hx336_2
    have hw336_1 := hx336_1
    have hw336_0 := hx336_0
    cases e336
    replace hx336_0 := pw_cell_below HB.out hx336_0
    replace hx336_1 := pw_cell_below HB.out hx336_1
    replace hx336_2 := pw_cell_below HB.out hx336_2
    replace hx336_3 := pw_cell_below HB.out hx336_3
    replace hx336_4 := pw_cell_below HB.out hx336_4
    replace p336 := eq_true p336
    replace q336 := eq_true q336
    have p338 : 0 ≤ ((ji8) : Int) := od_
    have q338 : (ji8) < (l0_0.length : Int) := od_
    obtain ⟨ad338, e338, hx338_0, hx338_1, hx338_2, hx338_3, hx338_4⟩ := at_T40 HR0_0.out (ji8) p338 q338
    have hw338_4 := hx338_4
    have hw338_3 := hx338_3
    have hw338_2 := hx338_2
    have hw338_1 := hx338_1
    have hw338_0 := hx338_0
    obtain rfl : ad336 = ad338 := (by injection e338)
    replace hx338_0 := pw_cell_below HB.out hx338_0
    replace hx338_1 := pw_cell_below HB.out hx338_1
    replace hx338_2 := pw_cell_below HB.out hx338_2
    replace hx338_3 := pw_cell_below HB.out hx338_3
    replace hx338_4 := pw_cell_below HB.out hx338_4
    replace p338 := eq_true p338
    replace q338 := eq_true q338
    have p339 : 0 ≤ (x3_1 : Int) := od_
    have q339 : x3_1 < (l0_0.length : Int) := od_
    obtain ⟨ad339, e339, hx339_0, hx339_1, hx339_2, hx339_3, hx339_4⟩ := at_T40 HR0_0.out x3_1 p339 q339
    have hw339_4 := hx339_4
    have hw339_3 := hx339_3
    have hw339_2 := hx339_2
    have hw339_1 := hx339_1
    have hw339_0 := hx339_0
    obtain rfl : ad336 = ad339 := (by injection e339)
    replace hx339_0 := pw_cell_below HB.out hx339_0
    replace hx339_1 := pw_cell_below HB.out hx339_1
    replace hx339_2 := pw_cell_below HB.out hx339_2
    replace hx339_3 := pw_cell_below HB.out hx339_3
    replace hx339_4 := pw_cell_below HB.out hx339_4
    replace p339 := eq_true p339
    replace q339 := eq_true q339
    refine start_ (n := 27) (S := fun w' => w'.cell? ⟨gb335, 0, none⟩ = some (.slice (some ad336) l0_0.length c0_0) ∧ w'.cell? ⟨gb335, 1, none⟩ = some (.slice A0_1 l0_1.length c0_1) ∧ w'.cell? (ad336.add ((x3_1).toNat * 5)) = some (.string ((rd_T40 l0_0 x3_1).f0)) ∧ w'.cell? ⟨(ad336.add ((x3_1).toNat * 5)).block, (ad336.add ((x3_1).toNat * 5)).off + 1, none⟩ = some (.string ((rd_T40 l0_0 x3_1).f1)) ∧ w'.cell? ⟨(ad336.add ((x3_1).toNat * 5)).block, (ad336.add ((x3_1).toNat * 5)).off + 2, none⟩ = some (.int .i64 ((rd_T40 l0_0 x3_1).f2)) ∧ w'.cell? ⟨(ad336.add ((x3_1).toNat * 5)).block, (ad336.add ((x3_1).toNat * 5)).off + 3, none⟩ = some (.int .i64 ((rd_T40 l0_0 x3_1).f3)) ∧ w'.cell? ⟨(ad336.add ((x3_1).toNat * 5)).block, (ad336.add ((x3_1).toNat * 5)).off + 4, none⟩ = some (.int .i64 ((rd_T40 l0_0 x3_1).f4)) ∧ w'.cell? (ad336.add (((ji8)).toNat * 5)) = some (.string ((rd_T40 l0_0 (ji8)).f0)) ∧ w'.cell? ⟨(ad336.add (((ji8)).toNat * 5)).block, (ad336.add (((ji8)).toNat * 5)).off + 1, none⟩ = some (.string ((rd_T40 l0_0 (ji8)).f1)) ∧ w'.cell? ⟨(ad336.add (((ji8)).toNat * 5)).block, (ad336.add (((ji8)).toNat * 5)).off + 2, none⟩ = some (.int .i64 ((rd_T40 l0_0 (ji8)).f2)) ∧ w'.cell? ⟨(ad336.add (((ji8)).toNat * 5)).block, (ad336.add (((ji8)).toNat * 5)).off + 3, none⟩ = some (.int .i64 ((rd_T40 l0_0 (ji8)).f3)) ∧ w'.cell? ⟨(ad336.add (((ji8)).toNat * 5)).block, (ad336.add (((ji8)).toNat * 5)).off + 4, none⟩ = some (.int .i64 ((rd_T40 l0_0 (ji8)).f4)) ∧ w'.cell? (ad336.add ((x3_1).toNat * 5)) = some (.string ((rd_T40 l0_0 x3_1).f0)) ∧ w'.cell? ⟨(ad336.add ((x3_1).toNat * 5)).block, (ad336.add ((x3_1).toNat * 5)).off + 1, none⟩ = some (.string ((rd_T40 l0_0 x3_1).f1)) ∧ w'.cell? ⟨(ad336.add ((x3_1).toNat * 5)).block, (ad336.add ((x3_1).toNat * 5)).off + 2, none⟩ = some (.int .i64 ((rd_T40 l0_0 x3_1).f2)) ∧ w'.cell? ⟨(ad336.add ((x3_1).toNat * 5)).block, (ad336.add ((x3_1).toNat * 5)).off + 3, none⟩ = some (.int .i64 ((rd_T40 l0_0 x3_1).f3)) ∧ w'.cell? ⟨(ad336.add ((x3_1).toNat * 5)).block, (ad336.add ((x3_1).toNat * 5)).off + 4, none⟩ = some (.int .i64 ((rd_T40 l0_0 x3_1).f4))) (ds := []) x16tr27_0 (by kernel_rfl) rfl rfl ⟨(blk_cell BK335.out 0).trans rfl, (blk_cell BK335.out 1).trans rfl, (pw_cell_below HB.out hw336_0), (pw_cell_below HB.out hw336_1), (pw_cell_below HB.out hw336_2), (pw_cell_below HB.out hw336_3), (pw_cell_below HB.out hw336_4), (pw_cell_below HB.out hw338_0), (pw_cell_below HB.out hw338_1), (pw_cell_below HB.out hw338_2), (pw_cell_below HB.out hw338_3), (pw_cell_below HB.out hw338_4), (pw_cell_below HB.out hw339_0), (pw_cell_below HB.out hw339_1), (pw_cell_below HB.out hw339_2), (pw_cell_below HB.out hw339_3), (pw_cell_below HB.out hw339_4)⟩ (fun hHeld => ?_); refine with_tabW cantonref07_Right.tab4 cantonref07_Right.bits4 (fun HT_ HW_ => ?_)
    generalize wr.drew = w16 at BK335 HB hx336_0 hx336_1 hx336_2 hx336_3 hx336_4 hx338_0 hx338_1 hx338_2 hx338_3 hx338_4 hx339_0 hx339_1 hx339_2 hx339_3 hx339_4 hHeld ⊢
    refine pA_ 0 13 x16tr27_1 HT_.out ?_
    refine pA_ 2 15 x16tr27_m101000000000000000000000000 HT_.out ?_
    refine tA_ 1 14 x16tr27_3 HT_.out HW_.out hHeld ?_
    refine pA_ 3 16 x16tr27_4 HT_.out ?_
    refine tA_ 4 17 x16tr27_5 HT_.out HW_.out hHeld ?_
    refine one_ (i := 5) (N := some 18) x16tr27_6 rfl rfl (one_of HT_.out (by kernel_rfl)) (by decide) (fun K hK => ?_)
    refine goes_ Try.func48 (by kernel_rfl) rfl #[.agg #[.string ((rd_T40 l0_0 x3_1).f0), .string ((rd_T40 l0_0 x3_1).f1), .int .i64 ((rd_T40 l0_0 x3_1).f2), .int .i64 ((rd_T40 l0_0 x3_1).f3), .int .i64 ((rd_T40 l0_0 x3_1).f4)]] (by rfl) rfl rfl m_ ?_
    with_reducible refine (cantonref07_node.calls k1 ((rd_T40 l0_0 x3_1).f0) ((rd_T40 l0_0 x3_1).f1) ((rd_T40 l0_0 x3_1).f2) ((rd_T40 l0_0 x3_1).f3) ((rd_T40 l0_0 x3_1).f4) true _ A5.out).mono ?_
    rintro e w17 ⟨rfl, hb⟩
    refine ⟨_, rfl, ?_⟩
    have n0_ := am_ (blk_below (kB BK335) hb)
    have n1_ := am_ (below_step (kZ HB) hb)
    clear BK335
    clear HB
    have BK335 := n0_
    have HB := n1_
    clear n0_ n1_
    (try clear hb)
    (try clear hb2)
    (try clear hk)
    (try clear hi)
    refine hK.out _ _ ⟨(blk_cell BK335.out 0).trans rfl, (blk_cell BK335.out 1).trans rfl, (pw_cell_below HB.out hw336_0), (pw_cell_below HB.out hw336_1), (pw_cell_below HB.out hw336_2), (pw_cell_below HB.out hw336_3), (pw_cell_below HB.out hw336_4), (pw_cell_below HB.out hw338_0), (pw_cell_below HB.out hw338_1), (pw_cell_below HB.out hw338_2), (pw_cell_below HB.out hw338_3), (pw_cell_below HB.out hw338_4), (pw_cell_below HB.out hw339_0), (pw_cell_below HB.out hw339_1), (pw_cell_below HB.out hw339_2), (pw_cell_below HB.out hw339_3), (pw_cell_below HB.out hw339_4)⟩ (fun hHeld => ?_)
    clear hK K
    refine norm_ (a' := ?_) ?_ ?_
    rotate_left
    ·show Act.put _ (some 18) _ = _
     simp only [Act.put, List.setIfInBounds_toArray, List.set_cons_zero, List.set_cons_succ, i64_w, i32_w]
     rfl
    refine pA_ 6 19 x16tr27_7 HT_.out ?_
    refine pA_ 7 20 x16tr27_8 HT_.out ?_
    refine pA_ 8 21 x16tr27_9 HT_.out ?_
    refine pA_ 9 22 x16tr27_10 HT_.out ?_
    refine pA_ 10 23 x16tr27_11 HT_.out ?_
    refine pA_ 11 24 x16tr27_12 HT_.out ?_
    refine pA_ 13 26 x16tr27_m111111111111010000000000000 HT_.out ?_
    refine pA_ 14 27 x16tr27_m111111111111011000000000000 HT_.out ?_
    refine pA_ 18 31 x16tr27_m111111111111011000100000000 HT_.out ?_
    refine pA_ 20 33 x16tr27_m111111111111011000101000000 HT_.out ?_
    refine tA_ 12 25 x16tr27_m111111111111111000101000000 HT_.out HW_.out hHeld ?_
    refine pA_ 15 28 x16tr27_m111111111111111100101000000 HT_.out ?_
    refine pA_ 16 29 x16tr27_m111111111111111110101000000 HT_.out ?_
    refine tA_ 17 30 x16tr27_m111111111111111111101000000 HT_.out HW_.out hHeld ?_
    refine tA_ 19 32 x16tr27_21 HT_.out HW_.out hHeld ?_
    refine pA_ 21 34 x16tr27_22 HT_.out ?_
    refine pA_ 22 35 x16tr27_23 HT_.out ?_
    refine tA_ 23 36 x16tr27_24 HT_.out HW_.out hHeld ?_
    refine pA_ 24 37 x16tr27_25 HT_.out ?_
    refine pA_ 25 38 x16tr27_26 HT_.out ?_
    refine pA_ 26 39 x16tr27_27 HT_.out ?_
    refine done_ (done_of HT_.out (by kernel_rfl)) ?_
    try go_wp2
    go_ret
    exact ⟨by first | rfl | (simp [errW_none, errW_some] <;> rfl) | (simp only [← hji8]; first | rfl | (simp [errW_none, errW_some] <;> rfl)) | (simp [*, errW_none, errW_some] <;> rfl), kZ HB⟩
   rw [if_pos c11] at H
   have c11b0 : (Op.bytesLess (((rd_T40 l0_0 (ji8)).f0).toList) (((rd_T40 l0_0 x3_1).f0).toList)) = true := c11
   clear c11
   have H' := am_ H
   clear H
   have hcz12_0 : wr.cell? ⟨gb335, 0, none⟩ = some (.slice A0_0 l0_0.length c0_0) := (blk_cell BK335.out 0).trans rfl
   have hcz12_1 : wr.cell? ⟨gb335, 1, none⟩ = some (.slice A0_1 l0_1.length c0_1) := (blk_cell BK335.out 1).trans rfl
   have hfz12_0 := blk_frozen BK335.out 0
   have hfz12_1 := blk_frozen BK335.out 1
   try go_wp2
   have n0_ := am_ (blk_drew BK335.out)
   have n1_ := am_ (below_drew1 HB.out)
   clear BK335
   clear HB
   have BK335 := n0_
   have HB := n1_
   clear n0_ n1_
   have p336 : 0 ≤ (x3_1 : Int) := od_
   have q336 : x3_1 < (l0_0.length : Int) := od_
   obtain ⟨ad336, e336, hx336_0, hx336_1, hx336_2, hx336_3, hx336_4⟩ := at_T40 HR0_0.out x3_1 p336 q336
   have hw336_4 := hx336_4
   have hw336_3 := hx336_3
   have hw336_2 := hx336_2
   have hw336_1 := hx336_1
   have hw336_0 := hx336_0
   cases e336
   replace hx336_0 := pw_cell_below HB.out hx336_0
   replace hx336_1 := pw_cell_below HB.out hx336_1
   replace hx336_2 := pw_cell_below HB.out hx336_2
   replace hx336_3 := pw_cell_below HB.out hx336_3
   replace hx336_4 := pw_cell_below HB.out hx336_4
   replace p336 := eq_true p336
   replace q336 := eq_true q336
   have p338 : 0 ≤ ((ji8) : Int) := od_
   have q338 : (ji8) < (l0_0.length : Int) := od_
   obtain ⟨ad338, e338, hx338_0, hx338_1, hx338_2, hx338_3, hx338_4⟩ := at_T40 HR0_0.out (ji8) p338 q338
   have hw338_4 := hx338_4
   have hw338_3 := hx338_3
   have hw338_2 := hx338_2
   have hw338_1 := hx338_1
   have hw338_0 := hx338_0
   obtain rfl : ad336 = ad338 := (by injection e338)
   replace hx338_0 := pw_cell_below HB.out hx338_0
   replace hx338_1 := pw_cell_below HB.out hx338_1
   replace hx338_2 := pw_cell_below HB.out hx338_2
   replace hx338_3 := pw_cell_below HB.out hx338_3
   replace hx338_4 := pw_cell_below HB.out hx338_4
   replace p338 := eq_true p338
   replace q338 := eq_true q338
   have p339 : 0 ≤ (x3_1 : Int) := od_
   have q339 : x3_1 < (l0_0.length : Int) := od_
   obtain ⟨ad339, e339, hx339_0, hx339_1, hx339_2, hx339_3, hx339_4⟩ := at_T40 HR0_0.out x3_1 p339 q339
   have hw339_4 := hx339_4
   have hw339_3 := hx339_3
   have hw339_2 := hx339_2
   have hw339_1 := hx339_1
   have hw339_0 := hx339_0
   obtain rfl : ad336 = ad339 := (by injection e339)
   replace hx339_0 := pw_cell_below HB.out hx339_0
   replace hx339_1 := pw_cell_below HB.out hx339_1
   replace hx339_2 := pw_cell_below HB.out hx339_2
   replace hx339_3 := pw_cell_below HB.out hx339_3
   replace hx339_4 := pw_cell_below HB.out hx339_4
   replace p339 := eq_true p339
   replace q339 := eq_true q339
   refine start_ (n := 27) (S := fun w' => w'.cell? ⟨gb335, 0, none⟩ = some (.slice (some ad336) l0_0.length c0_0) ∧ w'.cell? ⟨gb335, 1, none⟩ = some (.slice A0_1 l0_1.length c0_1) ∧ w'.cell? (ad336.add ((x3_1).toNat * 5)) = some (.string ((rd_T40 l0_0 x3_1).f0)) ∧ w'.cell? ⟨(ad336.add ((x3_1).toNat * 5)).block, (ad336.add ((x3_1).toNat * 5)).off + 1, none⟩ = some (.string ((rd_T40 l0_0 x3_1).f1)) ∧ w'.cell? ⟨(ad336.add ((x3_1).toNat * 5)).block, (ad336.add ((x3_1).toNat * 5)).off + 2, none⟩ = some (.int .i64 ((rd_T40 l0_0 x3_1).f2)) ∧ w'.cell? ⟨(ad336.add ((x3_1).toNat * 5)).block, (ad336.add ((x3_1).toNat * 5)).off + 3, none⟩ = some (.int .i64 ((rd_T40 l0_0 x3_1).f3)) ∧ w'.cell? ⟨(ad336.add ((x3_1).toNat * 5)).block, (ad336.add ((x3_1).toNat * 5)).off + 4, none⟩ = some (.int .i64 ((rd_T40 l0_0 x3_1).f4)) ∧ w'.cell? (ad336.add (((ji8)).toNat * 5)) = some (.string ((rd_T40 l0_0 (ji8)).f0)) ∧ w'.cell? ⟨(ad336.add (((ji8)).toNat * 5)).block, (ad336.add (((ji8)).toNat * 5)).off + 1, none⟩ = some (.string ((rd_T40 l0_0 (ji8)).f1)) ∧ w'.cell? ⟨(ad336.add (((ji8)).toNat * 5)).block, (ad336.add (((ji8)).toNat * 5)).off + 2, none⟩ = some (.int .i64 ((rd_T40 l0_0 (ji8)).f2)) ∧ w'.cell? ⟨(ad336.add (((ji8)).toNat * 5)).block, (ad336.add (((ji8)).toNat * 5)).off + 3, none⟩ = some (.int .i64 ((rd_T40 l0_0 (ji8)).f3)) ∧ w'.cell? ⟨(ad336.add (((ji8)).toNat * 5)).block, (ad336.add (((ji8)).toNat * 5)).off + 4, none⟩ = some (.int .i64 ((rd_T40 l0_0 (ji8)).f4)) ∧ w'.cell? (ad336.add ((x3_1).toNat * 5)) = some (.string ((rd_T40 l0_0 x3_1).f0)) ∧ w'.cell? ⟨(ad336.add ((x3_1).toNat * 5)).block, (ad336.add ((x3_1).toNat * 5)).off + 1, none⟩ = some (.string ((rd_T40 l0_0 x3_1).f1)) ∧ w'.cell? ⟨(ad336.add ((x3_1).toNat * 5)).block, (ad336.add ((x3_1).toNat * 5)).off + 2, none⟩ = some (.int .i64 ((rd_T40 l0_0 x3_1).f2)) ∧ w'.cell? ⟨(ad336.add ((x3_1).toNat * 5)).block, (ad336.add ((x3_1).toNat * 5)).off + 3, none⟩ = some (.int .i64 ((rd_T40 l0_0 x3_1).f3)) ∧ w'.cell? ⟨(ad336.add ((x3_1).toNat * 5)).block, (ad336.add ((x3_1).toNat * 5)).off + 4, none⟩ = some (.int .i64 ((rd_T40 l0_0 x3_1).f4))) (ds := []) x16tr27_0 (by kernel_rfl) rfl rfl ⟨(blk_cell BK335.out 0).trans rfl, (blk_cell BK335.out 1).trans rfl, (pw_cell_below HB.out hw336_0), (pw_cell_below HB.out hw336_1), (pw_cell_below HB.out hw336_2), (pw_cell_below HB.out hw336_3), (pw_cell_below HB.out hw336_4), (pw_cell_below HB.out hw338_0), (pw_cell_below HB.out hw338_1), (pw_cell_below HB.out hw338_2), (pw_cell_below HB.out hw338_3), (pw_cell_below HB.out hw338_4), (pw_cell_below HB.out hw339_0), (pw_cell_below HB.out hw339_1), (pw_cell_below HB.out hw339_2), (pw_cell_below HB.out hw339_3), (pw_cell_below HB.out hw339_4)⟩ (fun hHeld => ?_); refine with_tabW cantonref07_Right.tab4 cantonref07_Right.bits4 (fun HT_ HW_ => ?_)
   generalize wr.drew = w13 at BK335 HB hx336_0 hx336_1 hx336_2 hx336_3 hx336_4 hx338_0 hx338_1 hx338_2 hx338_3 hx338_4 hx339_0 hx339_1 hx339_2 hx339_3 hx339_4 hHeld ⊢
   refine pA_ 0 13 x16tr27_1 HT_.out ?_
   refine pA_ 2 15 x16tr27_m101000000000000000000000000 HT_.out ?_
   refine tA_ 1 14 x16tr27_3 HT_.out HW_.out hHeld ?_
   refine pA_ 3 16 x16tr27_4 HT_.out ?_
   refine tA_ 4 17 x16tr27_5 HT_.out HW_.out hHeld ?_
   refine one_ (i := 5) (N := some 18) x16tr27_6 rfl rfl (one_of HT_.out (by kernel_rfl)) (by decide) (fun K hK => ?_)
   refine goes_ Try.func48 (by kernel_rfl) rfl #[.agg #[.string ((rd_T40 l0_0 x3_1).f0), .string ((rd_T40 l0_0 x3_1).f1), .int .i64 ((rd_T40 l0_0 x3_1).f2), .int .i64 ((rd_T40 l0_0 x3_1).f3), .int .i64 ((rd_T40 l0_0 x3_1).f4)]] (by rfl) rfl rfl m_ ?_
   with_reducible refine (cantonref07_node.calls k1 ((rd_T40 l0_0 x3_1).f0) ((rd_T40 l0_0 x3_1).f1) ((rd_T40 l0_0 x3_1).f2) ((rd_T40 l0_0 x3_1).f3) ((rd_T40 l0_0 x3_1).f4) true _ A5.out).mono ?_
   rintro e w14 ⟨rfl, hb⟩
   refine ⟨_, rfl, ?_⟩
   have n0_ := am_ (blk_below (kB BK335) hb)
   have n1_ := am_ (below_step (kZ HB) hb)
   clear BK335
   clear HB
   have BK335 := n0_
   have HB := n1_
   clear n0_ n1_
   (try clear hb)
   (try clear hb2)
   (try clear hk)
   (try clear hi)
   refine hK.out _ _ ⟨(blk_cell BK335.out 0).trans rfl, (blk_cell BK335.out 1).trans rfl, (pw_cell_below HB.out hw336_0), (pw_cell_below HB.out hw336_1), (pw_cell_below HB.out hw336_2), (pw_cell_below HB.out hw336_3), (pw_cell_below HB.out hw336_4), (pw_cell_below HB.out hw338_0), (pw_cell_below HB.out hw338_1), (pw_cell_below HB.out hw338_2), (pw_cell_below HB.out hw338_3), (pw_cell_below HB.out hw338_4), (pw_cell_below HB.out hw339_0), (pw_cell_below HB.out hw339_1), (pw_cell_below HB.out hw339_2), (pw_cell_below HB.out hw339_3), (pw_cell_below HB.out hw339_4)⟩ (fun hHeld => ?_)
   clear hK K
   refine norm_ (a' := ?_) ?_ ?_
   rotate_left
   ·show Act.put _ (some 18) _ = _
    simp only [Act.put, List.setIfInBounds_toArray, List.set_cons_zero, List.set_cons_succ, i64_w, i32_w]
    rfl
   refine pA_ 6 19 x16tr27_7 HT_.out ?_
   refine pA_ 7 20 x16tr27_8 HT_.out ?_
   refine pA_ 8 21 x16tr27_9 HT_.out ?_
   refine pA_ 9 22 x16tr27_10 HT_.out ?_
   refine pA_ 10 23 x16tr27_11 HT_.out ?_
   refine pA_ 11 24 x16tr27_12 HT_.out ?_
   refine pA_ 13 26 x16tr27_m111111111111010000000000000 HT_.out ?_
   refine pA_ 14 27 x16tr27_m111111111111011000000000000 HT_.out ?_
   refine pA_ 18 31 x16tr27_m111111111111011000100000000 HT_.out ?_
   refine pA_ 20 33 x16tr27_m111111111111011000101000000 HT_.out ?_
   refine tA_ 12 25 x16tr27_m111111111111111000101000000 HT_.out HW_.out hHeld ?_
   refine pA_ 15 28 x16tr27_m111111111111111100101000000 HT_.out ?_
   refine pA_ 16 29 x16tr27_m111111111111111110101000000 HT_.out ?_
   refine tA_ 17 30 x16tr27_m111111111111111111101000000 HT_.out HW_.out hHeld ?_
   refine tA_ 19 32 x16tr27_21 HT_.out HW_.out hHeld ?_
   refine pA_ 21 34 x16tr27_22 HT_.out ?_
   refine pA_ 22 35 x16tr27_23 HT_.out ?_
   refine tA_ 23 36 x16tr27_24 HT_.out HW_.out hHeld ?_
   refine pA_ 24 37 x16tr27_25 HT_.out ?_
   refine pA_ 25 38 x16tr27_26 HT_.out ?_
   refine pA_ 26 39 x16tr27_27 HT_.out ?_
   refine done_ (done_of HT_.out (by kernel_rfl)) ?_
   try go_wp2
   go_roundg k1
   case measure => have := HK1.out; omega
   case rel => exact ⟨(wrap64 (x3_1 + 1)), e1_, H', ⟨by have := HK1.out; omega⟩, ⟨kB BK335⟩, ⟨kZ HB⟩⟩
end Go.Proofs.Ytinjajpnbbknnaa.Q
