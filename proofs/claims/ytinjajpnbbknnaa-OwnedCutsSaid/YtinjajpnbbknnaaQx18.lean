-- Written by a program of this session (xprint) out of the translation; over contracts proved by hand.
import Derived.Test.YtinjajpnbbknnaaQx0
import Derived.Test.YtinjajpnbbknnaaSq
import Derived.Test.YtinjajpnbbknnaaQx10
import Derived.Test.YtinjajpnbbknnaaQx12
import Derived.Test.YtinjajpnbbknnaaQx16
import Derived.Test.YtinjajpnbbknnaaQx17
namespace Go.Proofs.Ytinjajpnbbknnaa.Cut2
end Go.Proofs.Ytinjajpnbbknnaa.Cut2
namespace Go.Proofs.Ytinjajpnbbknnaa.RPut
end Go.Proofs.Ytinjajpnbbknnaa.RPut
namespace Go.Proofs.Ytinjajpnbbknnaa.Split
end Go.Proofs.Ytinjajpnbbknnaa.Split
namespace Go.Proofs.Ytinjajpnbbknnaa.Q
open Go.Proofs.Ytinjajpnbbknnaa.Cut2 Go.Proofs.Ytinjajpnbbknnaa.RPut Go.Proofs.Ytinjajpnbbknnaa.Split
set_option linter.unnecessarySimpa false
open Go.RowKit Go.Proofs.YtinjajpnbbknnaaW.PrintWords Go.Proofs.YtinjajpnbbknnaaW.PrintLast Go.Proofs.YtinjajpnbbknnaaW.PrintMore
attribute [local go_sem] max2_int min2_int max_two min_two max_three min_three max_four min_four   -- for this text's walks alone
set_option linter.unusedVariables false
set_option linter.unusedSimpArgs false

abbrev x18tr11_0 : Array Bool := trr 11 0
abbrev x18tr11_1 : Array Bool := trr 11 1
abbrev x18tr11_10 : Array Bool := trr 11 10
abbrev x18tr11_11 : Array Bool := trr 11 11
abbrev x18tr11_5 : Array Bool := trr 11 5
abbrev x18tr11_6 : Array Bool := trr 11 6
abbrev x18tr11_7 : Array Bool := trr 11 7
abbrev x18tr11_8 : Array Bool := trr 11 8
abbrev x18tr11_9 : Array Bool := trr 11 9
abbrev x18tr11_m10100000000 : Array Bool := #[true, false, true, false, false, false, false, false, false, false, false]
abbrev x18tr11_m10101000000 : Array Bool := #[true, false, true, false, true, false, false, false, false, false, false]
abbrev x18tr11_m11101000000 : Array Bool := #[true, true, true, false, true, false, false, false, false, false, false]
/-! ### cantonref11_Cut: function 26 -/
mutual
def cantonref11_Cut.j0 : Nat → List (S45) → ByteArray → Bool → List (S40) → List (S59) → Option ((List (S40)) × (List (S59)) × (List (S40)) × (List (S59)))
 | 0, _, _, _, _, _ => none
 | k + 1, x1, x2, x21, x358000, x358001 => if x21 = true then (some (([] : List (S40)), ([] : List (S59)), ([] : List (S40)), ([] : List (S59)))) else (cantonref11_Cut.l0 k x1 x2 0 x358000 x358001 ([] : List (S40)) ([] : List (S40)))
def cantonref11_Cut.l0 : Nat → List (S45) → ByteArray → Int → List (S40) → List (S59) → List (S40) → List (S40) → Option ((List (S40)) × (List (S59)) × (List (S40)) × (List (S59)))
 | 0, _, _, _, _, _, _, _ => none
 | k + 1, x1, x2, x10, x358000, x358001, x361000, x362000 => if x10 < (x358000.length : Int) then (if 0 ≤ x10 then ((cantonref07_Home.f k ((rd_T40 x358000 x10).f0)).bind fun t365 => ((cantonref11_Of.f k x1 t365).bind fun t366 => (if t366 ≥ 0 then (if 0 ≤ t366 then (if t366 < (x1.length : Int) then (if ((rd_T45 x1 t366).f0).toList = x2.toList then (if x361000.length < 2513169434916 then (cantonref11_Cut.l0 k x1 x2 (wrap64 (x10 + 1)) x358000 x358001 (x361000 ++ [(⟨(rd_T40 x358000 x10).f0, (rd_T40 x358000 x10).f1, (rd_T40 x358000 x10).f2, (rd_T40 x358000 x10).f3, (rd_T40 x358000 x10).f4⟩ : S40)]) x362000) else (none)) else (if x362000.length < 2513169434916 then (cantonref11_Cut.l0 k x1 x2 (wrap64 (x10 + 1)) x358000 x358001 x361000 (x362000 ++ [(⟨(rd_T40 x358000 x10).f0, (rd_T40 x358000 x10).f1, (rd_T40 x358000 x10).f2, (rd_T40 x358000 x10).f3, (rd_T40 x358000 x10).f4⟩ : S40)])) else (none))) else (none)) else (none)) else (if x362000.length < 2513169434916 then (cantonref11_Cut.l0 k x1 x2 (wrap64 (x10 + 1)) x358000 x358001 x361000 (x362000 ++ [(⟨(rd_T40 x358000 x10).f0, (rd_T40 x358000 x10).f1, (rd_T40 x358000 x10).f2, (rd_T40 x358000 x10).f3, (rd_T40 x358000 x10).f4⟩ : S40)])) else (none))))) else (none)) else (cantonref11_Cut.l1 k x1 x2 0 x358000 x358001 x361000 ([] : List (S59)) x362000 ([] : List (S59)))
def cantonref11_Cut.l1 : Nat → List (S45) → ByteArray → Int → List (S40) → List (S59) → List (S40) → List (S59) → List (S40) → List (S59) → Option ((List (S40)) × (List (S59)) × (List (S40)) × (List (S59)))
 | 0, _, _, _, _, _, _, _, _, _ => none
 | k + 1, x1, x2, x12, x358000, x358001, x361000, x361001, x362000, x362001 => if x12 < (x358001.length : Int) then (if 0 ≤ x12 then ((cantonref11_Of.f k x1 ((rd_T59 x358001 x12).f0)).bind fun t381 => (if t381 ≥ 0 then (if 0 ≤ t381 then (if t381 < (x1.length : Int) then (if ((rd_T45 x1 t381).f0).toList = x2.toList then (if x361001.length < 5864062014805 then (cantonref11_Cut.l1 k x1 x2 (wrap64 (x12 + 1)) x358000 x358001 x361000 (x361001 ++ [(⟨(rd_T59 x358001 x12).f0, (rd_T59 x358001 x12).f1⟩ : S59)]) x362000 x362001) else (none)) else (if x362001.length < 5864062014805 then (cantonref11_Cut.l1 k x1 x2 (wrap64 (x12 + 1)) x358000 x358001 x361000 x361001 x362000 (x362001 ++ [(⟨(rd_T59 x358001 x12).f0, (rd_T59 x358001 x12).f1⟩ : S59)])) else (none))) else (none)) else (none)) else (if x362001.length < 5864062014805 then (cantonref11_Cut.l1 k x1 x2 (wrap64 (x12 + 1)) x358000 x358001 x361000 x361001 x362000 (x362001 ++ [(⟨(rd_T59 x358001 x12).f0, (rd_T59 x358001 x12).f1⟩ : S59)])) else (none)))) else (none)) else (some (x361000, x361001, x362000, x362001))
end
def cantonref11_Cut.f (k : Nat) (l0_0 : List (S40)) (l0_1 : List (S59)) (l1 : List (S45)) (a2 : ByteArray) : Option ((List (S40)) × (List (S59)) × (List (S40)) × (List (S59))) := (cantonref07_Right.f k l0_0 l0_1).bind fun t362 => (if t362 = true then ((cantonref11_Right.f k l1).bind fun t363 => (cantonref11_Cut.j0 k l1 a2 (!t363) l0_0 l0_1)) else (cantonref11_Cut.j0 k l1 a2 true l0_0 l0_1))
theorem cantonref11_Cut.mono_l : ∀ k, (∀ y0 y1 y2 y3 y4, LeO (cantonref11_Cut.j0 k y0 y1 y2 y3 y4) (cantonref11_Cut.j0 (k + 1) y0 y1 y2 y3 y4)) ∧ (∀ y0 y1 y2 y3 y4 y5 y6, LeO (cantonref11_Cut.l0 k y0 y1 y2 y3 y4 y5 y6) (cantonref11_Cut.l0 (k + 1) y0 y1 y2 y3 y4 y5 y6)) ∧ (∀ y0 y1 y2 y3 y4 y5 y6 y7 y8, LeO (cantonref11_Cut.l1 k y0 y1 y2 y3 y4 y5 y6 y7 y8) (cantonref11_Cut.l1 (k + 1) y0 y1 y2 y3 y4 y5 y6 y7 y8))
 | 0 => ⟨fun _ _ _ _ _ r h => by simp [cantonref11_Cut.j0] at h, fun _ _ _ _ _ _ _ r h => by simp [cantonref11_Cut.l0] at h, fun _ _ _ _ _ _ _ _ _ r h => by simp [cantonref11_Cut.l1] at h⟩
 | k + 1 => by
  obtain ⟨ih0, ih1, ih2⟩ := cantonref11_Cut.mono_l k
  refine ⟨?_, ?_, ?_⟩
  ·intro y0 y1 y2 y3 y4
   unfold cantonref11_Cut.j0
   repeat' first
   | (with_reducible exact ih0 _ _ _ _ _)
   | (with_reducible exact ih1 _ _ _ _ _ _ _)
   | (with_reducible exact ih2 _ _ _ _ _ _ _ _ _)
   | (with_reducible exact cantonref07_Home.mono _ _)
   | (with_reducible exact cantonref07_Right.mono _ _ _)
   | (with_reducible exact cantonref11_Of.mono _ _ _)
   | (with_reducible exact cantonref11_Right.mono _ _)
   | (with_reducible exact LeO.refl _)
   | (with_reducible exact LeO.none _)
   | (with_reducible refine LeO.ite ?_ ?_)
   | (with_reducible refine LeO.bind ?_ (fun _ => ?_))
   | exact ih0 _ _ _ _ _
   | exact ih1 _ _ _ _ _ _ _
   | exact ih2 _ _ _ _ _ _ _ _ _
   | exact cantonref07_Home.mono _ _
   | exact cantonref07_Right.mono _ _ _
   | exact cantonref11_Of.mono _ _ _
   | exact cantonref11_Right.mono _ _
   | exact LeO.none _
   | refine LeO.ite ?_ ?_
   | refine LeO.bind ?_ (fun _ => ?_)
  ·intro y0 y1 y2 y3 y4 y5 y6
   unfold cantonref11_Cut.l0
   repeat' first
   | (with_reducible exact ih0 _ _ _ _ _)
   | (with_reducible exact ih1 _ _ _ _ _ _ _)
   | (with_reducible exact ih2 _ _ _ _ _ _ _ _ _)
   | (with_reducible exact cantonref07_Home.mono _ _)
   | (with_reducible exact cantonref07_Right.mono _ _ _)
   | (with_reducible exact cantonref11_Of.mono _ _ _)
   | (with_reducible exact cantonref11_Right.mono _ _)
   | (with_reducible exact LeO.refl _)
   | (with_reducible exact LeO.none _)
   | (with_reducible refine LeO.ite ?_ ?_)
   | (with_reducible refine LeO.bind ?_ (fun _ => ?_))
   | exact ih0 _ _ _ _ _
   | exact ih1 _ _ _ _ _ _ _
   | exact ih2 _ _ _ _ _ _ _ _ _
   | exact cantonref07_Home.mono _ _
   | exact cantonref07_Right.mono _ _ _
   | exact cantonref11_Of.mono _ _ _
   | exact cantonref11_Right.mono _ _
   | exact LeO.none _
   | refine LeO.ite ?_ ?_
   | refine LeO.bind ?_ (fun _ => ?_)
  ·intro y0 y1 y2 y3 y4 y5 y6 y7 y8
   unfold cantonref11_Cut.l1
   repeat' first
   | (with_reducible exact ih0 _ _ _ _ _)
   | (with_reducible exact ih1 _ _ _ _ _ _ _)
   | (with_reducible exact ih2 _ _ _ _ _ _ _ _ _)
   | (with_reducible exact cantonref07_Home.mono _ _)
   | (with_reducible exact cantonref07_Right.mono _ _ _)
   | (with_reducible exact cantonref11_Of.mono _ _ _)
   | (with_reducible exact cantonref11_Right.mono _ _)
   | (with_reducible exact LeO.refl _)
   | (with_reducible exact LeO.none _)
   | (with_reducible refine LeO.ite ?_ ?_)
   | (with_reducible refine LeO.bind ?_ (fun _ => ?_))
   | exact ih0 _ _ _ _ _
   | exact ih1 _ _ _ _ _ _ _
   | exact ih2 _ _ _ _ _ _ _ _ _
   | exact cantonref07_Home.mono _ _
   | exact cantonref07_Right.mono _ _ _
   | exact cantonref11_Of.mono _ _ _
   | exact cantonref11_Right.mono _ _
   | exact LeO.none _
   | refine LeO.ite ?_ ?_
   | refine LeO.bind ?_ (fun _ => ?_)
theorem cantonref11_Cut.mono : ∀ a0 a1 a2 a3 k, LeO (cantonref11_Cut.f k a0 a1 a2 a3) (cantonref11_Cut.f (k + 1) a0 a1 a2 a3) := by
 intro a0 a1 a2 a3 k
 obtain ⟨ih0, ih1, ih2⟩ := cantonref11_Cut.mono_l k
 unfold cantonref11_Cut.f
 repeat' first
   | (with_reducible exact ih0 _ _ _ _ _)
   | (with_reducible exact ih1 _ _ _ _ _ _ _)
   | (with_reducible exact ih2 _ _ _ _ _ _ _ _ _)
   | (with_reducible exact cantonref07_Home.mono _ _)
   | (with_reducible exact cantonref07_Right.mono _ _ _)
   | (with_reducible exact cantonref11_Of.mono _ _ _)
   | (with_reducible exact cantonref11_Right.mono _ _)
   | (with_reducible exact LeO.refl _)
   | (with_reducible exact LeO.none _)
   | (with_reducible refine LeO.ite ?_ ?_)
   | (with_reducible refine LeO.bind ?_ (fun _ => ?_))
   | exact ih0 _ _ _ _ _
   | exact ih1 _ _ _ _ _ _ _
   | exact ih2 _ _ _ _ _ _ _ _ _
   | exact cantonref07_Home.mono _ _
   | exact cantonref07_Right.mono _ _ _
   | exact cantonref11_Of.mono _ _ _
   | exact cantonref11_Right.mono _ _
   | exact LeO.none _
   | refine LeO.ite ?_ ?_
   | refine LeO.bind ?_ (fun _ => ?_)
def cantonref11_Cut.T10 : Bool × List (List Nat × List Nat) := (true, [([], []), ([0], [0]), ([], []), ([2], [2]), ([], []), ([3, 4], [3, 4]), ([5], [5]), ([6], [6]), ([1, 7], [1, 7]), ([0, 1, 2, 3, 4, 5, 6, 7, 8], []), ([9, 8, 8, 0, 1, 2, 3, 4, 5, 6, 7, 8], [8, 9])])
def cantonref11_Cut.B10 : List Nat := [0, 1, 0, 4, 0, 28, 60, 124, 255, 511, 1023]
theorem cantonref11_Cut.tab10 : rtab .any (opsOf Try.f26 10) = cantonref11_Cut.T10 := by kernel_rfl
theorem cantonref11_Cut.bits10 : waitsOk cantonref11_Cut.T10.2 cantonref11_Cut.B10 = true := by kernel_rfl
def cantonref11_Cut.T11 : Bool × List (List Nat × List Nat) := (true, [([], []), ([0], [0]), ([], []), ([2], [2]), ([], []), ([3, 4], [3, 4]), ([5], [5]), ([6], [6]), ([1, 7], [1, 7]), ([0, 1, 2, 3, 4, 5, 6, 7, 8], []), ([9, 8, 8, 0, 1, 2, 3, 4, 5, 6, 7, 8], [8, 9])])
def cantonref11_Cut.B11 : List Nat := [0, 1, 0, 4, 0, 28, 60, 124, 255, 511, 1023]
theorem cantonref11_Cut.tab11 : rtab .any (opsOf Try.f26 11) = cantonref11_Cut.T11 := by kernel_rfl
theorem cantonref11_Cut.bits11 : waitsOk cantonref11_Cut.T11.2 cantonref11_Cut.B11 = true := by kernel_rfl
def cantonref11_Cut.T17 : Bool × List (List Nat × List Nat) := (true, [([], []), ([0], [0]), ([], []), ([2], [2]), ([], []), ([3, 4], [3, 4]), ([5], [5]), ([6], [6]), ([1, 7], [1, 7]), ([0, 1, 2, 3, 4, 5, 6, 7, 8], []), ([9, 8, 8, 0, 1, 2, 3, 4, 5, 6, 7, 8], [8, 9])])
def cantonref11_Cut.B17 : List Nat := [0, 1, 0, 4, 0, 28, 60, 124, 255, 511, 1023]
theorem cantonref11_Cut.tab17 : rtab .any (opsOf Try.f26 17) = cantonref11_Cut.T17 := by kernel_rfl
theorem cantonref11_Cut.bits17 : waitsOk cantonref11_Cut.T17.2 cantonref11_Cut.B17 = true := by kernel_rfl
def cantonref11_Cut.T18 : Bool × List (List Nat × List Nat) := (true, [([], []), ([0], [0]), ([], []), ([2], [2]), ([], []), ([3, 4], [3, 4]), ([5], [5]), ([6], [6]), ([1, 7], [1, 7]), ([0, 1, 2, 3, 4, 5, 6, 7, 8], []), ([9, 8, 8, 0, 1, 2, 3, 4, 5, 6, 7, 8], [8, 9])])
def cantonref11_Cut.B18 : List Nat := [0, 1, 0, 4, 0, 28, 60, 124, 255, 511, 1023]
theorem cantonref11_Cut.tab18 : rtab .any (opsOf Try.f26 18) = cantonref11_Cut.T18 := by kernel_rfl
theorem cantonref11_Cut.bits18 : waitsOk cantonref11_Cut.T18.2 cantonref11_Cut.B18 = true := by kernel_rfl
set_option maxHeartbeats 8000000 in
set_option maxRecDepth 100000 in
theorem cantonref11_Cut.calls (k : Nat) (A0_0 : Option Addr) (c0_0 : Nat) (l0_0 : List (S40)) (A0_1 : Option Addr) (c0_1 : Nat) (l0_1 : List (S59)) (A1 : Option Addr) (c1 : Nat) (l1 : List (S45)) (a2 : ByteArray) (r1 : List (S40)) (r2 : List (S59)) (r3 : List (S40)) (r4 : List (S59)) (w : World) (hr0_0 : Kd.C k40 w A0_0 l0_0.length l0_0) (hc0_0 : l0_0.length ≤ c0_0) (hr0_1 : Kd.C k59 w A0_1 l0_1.length l0_1) (hc0_1 : l0_1.length ≤ c0_1) (hr1 : Kd.C k45 w A1 l1.length l1) (hc1 : l1.length ≤ c1) (h : cantonref11_Cut.f k l0_0 l0_1 l1 a2 = some (r1, r2, r3, r4)) :
  Calls Try.prog 26 #[.agg #[.slice A0_0 l0_0.length c0_0, .slice A0_1 l0_1.length c0_1], .slice A1 l1.length c1, .string a2] w fun e w' => ∃ v0_ v1_ v2_ v3_ : Value, e = .returned (.tuple #[.agg #[v0_, v1_], .agg #[v2_, v3_]]) ∧ Kd.R k40 40 w' w.heap.size (fun k_ => some k_ ≠ (v2_ : Value).ownBlock) v0_ r1 ∧ Kd.R k59 59 w' w.heap.size (fun k_ => some k_ ≠ (v3_ : Value).ownBlock) v1_ r2 ∧ Kd.R k40 40 w' w.heap.size (fun k_ => some k_ ≠ (v0_ : Value).ownBlock) v2_ r3 ∧ Kd.R k59 59 w' w.heap.size (fun k_ => some k_ ≠ (v1_ : Value).ownBlock) v3_ r4 ∧ Below w.heap.size w w' := by
 have hu34 := Try.underlying34
 have hu40 := Try.underlying40
 have hu59 := Try.underlying59
 have HR0_0 := am_ hr0_0
 have HC0_0 := am_ hc0_0
 clear hr0_0 hc0_0
 have HR0_1 := am_ hr0_1
 have HC0_1 := am_ hc0_1
 clear hr0_1 hc0_1
 have HR1 := am_ hr1
 have HC1 := am_ hc1
 clear hr1 hc1
 have HB := am_ (Below.refl w.heap.size w)
 have H : ((cantonref07_Right.f k l0_0 l0_1).bind fun t362 => (if t362 = true then ((cantonref11_Right.f k l1).bind fun t363 => (cantonref11_Cut.j0 k l1 a2 (!t363) l0_0 l0_1)) else (cantonref11_Cut.j0 k l1 a2 true l0_0 l0_1))) = some (r1, r2, r3, r4) := h
 clear h
 have HC4 := am_ H
 clear H
 go_enter Try.func26, Try.ntmps26
 go_upto_region 3 with (first | ((with_reducible refine gate_dst (N := 3) rfl ?_); refine box_event ?hg (N := 3) ?hd (cs := #[.slice A0_0 l0_0.length c0_0, .slice A0_1 l0_1.length c0_1]) (t := 34) ?hr ?_; (case hd => rfl); (case hg => rfl); (case hr => first | (go_simp; done) | (go_simp; rfl)); intro gb357 hg w5 hbox hb; have n0_ := am_ (below_step (kZ HB) hb); have n1_ := am_ (hbox); have n2_ := am_ (gW hg (kZ HB)); have n3_ := am_ (gW hg (kZ HB)); clear HB; have HB := n0_; have BK357 := n1_; have GW357 := n2_; have GE357 := n3_; clear n0_ n1_ n2_ n3_; clear hb hbox hg) | ((with_reducible refine gate_dst (N := 6) rfl ?_); refine box_event ?hg (N := 6) ?hd (cs := #[.slice none 0 0, .slice none 0 0]) (t := 34) ?hr ?_; (case hd => rfl); (case hg => rfl); (case hr => first | (go_simp; done) | (go_simp; rfl)); intro gb358 hg w6 hbox hb; have n0_ := am_ (blk_below (kB BK357) hb); have n1_ := am_ (below_step (kZ HB) hb); have n2_ := am_ (hbox); have n3_ := am_ (gW hg (kZ HB)); have n4_ := am_ (gW hg (kZ HB)); have n5_ := am_ (gN hg (kB BK357)); have n6_ := am_ (gM hg (kB BK357)); clear BK357; clear HB; have BK357 := n0_; have HB := n1_; have BK358 := n2_; have GW358 := n3_; have GE358 := n4_; have NB357_358 := n5_; have NB358_357 := n6_; clear n0_ n1_ n2_ n3_ n4_ n5_ n6_; clear hb hbox hg) | ((with_reducible refine gate_dst (N := 7) rfl ?_); refine box_event ?hg (N := 7) ?hd (cs := #[.slice none 0 0, .slice none 0 0]) (t := 34) ?hr ?_; (case hd => rfl); (case hg => rfl); (case hr => first | (go_simp; done) | (go_simp; rfl)); intro gb359 hg w7 hbox hb; have n0_ := am_ (blk_below (kB BK357) hb); have n1_ := am_ (blk_below (kB BK358) hb); have n2_ := am_ (below_step (kZ HB) hb); have n3_ := am_ (hbox); have n4_ := am_ (gW hg (kZ HB)); have n5_ := am_ (gW hg (kZ HB)); have n6_ := am_ (gN hg (kB BK357)); have n7_ := am_ (gM hg (kB BK357)); have n8_ := am_ (gN hg (kB BK358)); have n9_ := am_ (gM hg (kB BK358)); clear BK357; clear BK358; clear HB; have BK357 := n0_; have BK358 := n1_; have HB := n2_; have BK359 := n3_; have GW359 := n4_; have GE359 := n5_; have NB357_359 := n6_; have NB359_357 := n7_; have NB358_359 := n8_; have NB359_358 := n9_; clear n0_ n1_ n2_ n3_ n4_ n5_ n6_ n7_ n8_ n9_; clear hb hbox hg) | ((with_reducible refine gate_dst (N := 8) rfl ?_); refine box_event ?hg (N := 8) ?hd (cs := #[.slice none 0 0, .slice none 0 0]) (t := 34) ?hr ?_; (case hd => rfl); (case hg => rfl); (case hr => first | (go_simp; done) | (go_simp; rfl)); intro gb360 hg w8 hbox hb; have n0_ := am_ (blk_below (kB BK357) hb); have n1_ := am_ (blk_below (kB BK358) hb); have n2_ := am_ (blk_below (kB BK359) hb); have n3_ := am_ (below_step (kZ HB) hb); have n4_ := am_ (hbox); have n5_ := am_ (gW hg (kZ HB)); have n6_ := am_ (gW hg (kZ HB)); have n7_ := am_ (gN hg (kB BK357)); have n8_ := am_ (gM hg (kB BK357)); have n9_ := am_ (gN hg (kB BK358)); have n10_ := am_ (gM hg (kB BK358)); have n11_ := am_ (gN hg (kB BK359)); have n12_ := am_ (gM hg (kB BK359)); clear BK357; clear BK358; clear BK359; clear HB; have BK357 := n0_; have BK358 := n1_; have BK359 := n2_; have HB := n3_; have BK360 := n4_; have GW360 := n5_; have GE360 := n6_; have NB357_360 := n7_; have NB360_357 := n8_; have NB358_360 := n9_; have NB360_358 := n10_; have NB359_360 := n11_; have NB360_359 := n12_; clear n0_ n1_ n2_ n3_ n4_ n5_ n6_ n7_ n8_ n9_ n10_ n11_ n12_; clear hb hbox hg) | ((with_reducible refine gate_dst (N := 9) rfl ?_); refine box_event ?hg (N := 9) ?hd (cs := #[.slice none 0 0, .slice none 0 0]) (t := 34) ?hr ?_; (case hd => rfl); (case hg => rfl); (case hr => first | (go_simp; done) | (go_simp; rfl)); intro gb361 hg w9 hbox hb; have n0_ := am_ (blk_below (kB BK357) hb); have n1_ := am_ (blk_below (kB BK358) hb); have n2_ := am_ (blk_below (kB BK359) hb); have n3_ := am_ (blk_below (kB BK360) hb); have n4_ := am_ (below_step (kZ HB) hb); have n5_ := am_ (hbox); have n6_ := am_ (gW hg (kZ HB)); have n7_ := am_ (gW hg (kZ HB)); have n8_ := am_ (gN hg (kB BK357)); have n9_ := am_ (gM hg (kB BK357)); have n10_ := am_ (gN hg (kB BK358)); have n11_ := am_ (gM hg (kB BK358)); have n12_ := am_ (gN hg (kB BK359)); have n13_ := am_ (gM hg (kB BK359)); have n14_ := am_ (gN hg (kB BK360)); have n15_ := am_ (gM hg (kB BK360)); clear BK357; clear BK358; clear BK359; clear BK360; clear HB; have BK357 := n0_; have BK358 := n1_; have BK359 := n2_; have BK360 := n3_; have HB := n4_; have BK361 := n5_; have GW361 := n6_; have GE361 := n7_; have NB357_361 := n8_; have NB361_357 := n9_; have NB358_361 := n10_; have NB361_358 := n11_; have NB359_361 := n12_; have NB361_359 := n13_; have NB360_361 := n14_; have NB361_360 := n15_; clear n0_ n1_ n2_ n3_ n4_ n5_ n6_ n7_ n8_ n9_ n10_ n11_ n12_ n13_ n14_ n15_; clear hb hbox hg))
 (try simp only [Act.put, List.setIfInBounds_toArray, List.set_cons_zero, List.set_cons_succ])
 go_cut [21] (fun v21 wc => ∃ (kq : Nat) (x21_3 : Bool), v21 = .bool x21_3 ∧ Aside0 (cantonref11_Cut.j0 kq l1 a2 x21_3 l0_0 l0_1 = some (r1, r2, r3, r4)) ∧ Aside0 (kq ≤ k) ∧ Aside0 (wc.heap[gb357]? = some (.cells #[(.slice A0_0 l0_0.length c0_0), (.slice A0_1 l0_1.length c0_1)] 34 (0, 0))) ∧ Aside0 (wc.heap[gb358]? = some (.cells #[(.slice none 0 0), (.slice none 0 0)] 34 (0, 0))) ∧ Aside0 (wc.heap[gb359]? = some (.cells #[(.slice none 0 0), (.slice none 0 0)] 34 (0, 0))) ∧ Aside0 (wc.heap[gb360]? = some (.cells #[(.slice none 0 0), (.slice none 0 0)] 34 (0, 0))) ∧ Aside0 (wc.heap[gb361]? = some (.cells #[(.slice none 0 0), (.slice none 0 0)] 34 (0, 0))) ∧ Aside0 (Below w.heap.size w wc))
 case first =>
  have H := HC4.out
  clear HC4
  replace H := Option.bind_eq_some_iff.mp H
  obtain ⟨t362, A100, H⟩ := H
  replace H : (if t362 = true then ((cantonref11_Right.f k l1).bind fun t363 => (cantonref11_Cut.j0 k l1 a2 (!t363) l0_0 l0_1)) else (cantonref11_Cut.j0 k l1 a2 true l0_0 l0_1)) = some (r1, r2, r3, r4) := H
  have A10 := am_ A100
  clear A100
  by_cases c11 : t362 = true
  rotate_left
  ·replace c11 := Bool.eq_false_iff.mpr c11
   subst c11
   have H1 : (cantonref11_Cut.j0 k l1 a2 true l0_0 l0_1) = some (r1, r2, r3, r4) := by rw [if_neg (show ¬ (false = true) by decide)] at H; exact H
   clear H
   have H := H1
   clear H1
   have H' := am_ H
   clear H
   have hnb20 := NB357_358.out
   have hnc20 := NB358_357.out
   have hnb21 := NB357_359.out
   have hnc21 := NB359_357.out
   have hnb22 := NB357_360.out
   have hnc22 := NB360_357.out
   have hnb23 := NB357_361.out
   have hnc23 := NB361_357.out
   have hcz24_0 : w9.cell? ⟨gb357, 0, none⟩ = some (.slice A0_0 l0_0.length c0_0) := (blk_cell BK357.out 0).trans rfl
   have hcz24_1 : w9.cell? ⟨gb357, 1, none⟩ = some (.slice A0_1 l0_1.length c0_1) := (blk_cell BK357.out 1).trans rfl
   have hfz24_0 := blk_frozen BK357.out 0
   have hfz24_1 := blk_frozen BK357.out 1
   go_wp2_with (first | ((with_reducible refine gate_callee (f := 28) rfl ?_); refine gL (some 15) Try.func28 #[.agg #[.slice A0_0 l0_0.length c0_0, .slice A0_1 l0_1.length c0_1]] rfl rfl ?_; (with_reducible refine (cantonref07_Right.calls k _ _ l0_0 _ _ l0_1 false _ ?side1 ?side2 ?side3 ?side4 A10.out).mono ?_); (case side1 => exact kC ((Kd.C_below HR0_0.out HB.out))); (case side2 => exact HC0_0.out); (case side3 => exact kC ((Kd.C_below HR0_1.out HB.out))); (case side4 => exact HC0_1.out); rintro e w25 ⟨rfl, hb⟩; refine ⟨_, rfl, ?_⟩; have n0_ := am_ (blk_below (kB BK357) hb); have n1_ := am_ (blk_below (kB BK358) hb); have n2_ := am_ (blk_below (kB BK359) hb); have n3_ := am_ (blk_below (kB BK360) hb); have n4_ := am_ (blk_below (kB BK361) hb); have n5_ := am_ (below_step (kZ HB) hb); clear BK357; clear BK358; clear BK359; clear BK360; clear BK361; clear HB; have BK357 := n0_; have BK358 := n1_; have BK359 := n2_; have BK360 := n3_; have BK361 := n4_; have HB := n5_; clear n0_ n1_ n2_ n3_ n4_ n5_; (try clear hb); (try clear hb2); (try clear hk); (try clear hi)))
   go_meet
   case rel => exact ⟨_, (true), e1_, H', ⟨by first | omega | exact Nat.le_refl _⟩, ⟨kB BK357⟩, ⟨kB BK358⟩, ⟨kB BK359⟩, ⟨kB BK360⟩, ⟨kB BK361⟩, ⟨kZ HB⟩⟩
  subst c11
  have H1 : ((cantonref11_Right.f k l1).bind fun t363 => (cantonref11_Cut.j0 k l1 a2 (!t363) l0_0 l0_1)) = some (r1, r2, r3, r4) := by rw [if_pos rfl] at H; exact H
  clear H
  have H := H1
  clear H1
  replace H := Option.bind_eq_some_iff.mp H
  obtain ⟨t363, A120, H⟩ := H
  replace H : (cantonref11_Cut.j0 k l1 a2 (!t363) l0_0 l0_1) = some (r1, r2, r3, r4) := H
  have A12 := am_ A120
  clear A120
  have H' := am_ H
  clear H
  have hnb13 := NB357_358.out
  have hnc13 := NB358_357.out
  have hnb14 := NB357_359.out
  have hnc14 := NB359_357.out
  have hnb15 := NB357_360.out
  have hnc15 := NB360_357.out
  have hnb16 := NB357_361.out
  have hnc16 := NB361_357.out
  have hcz17_0 : w9.cell? ⟨gb357, 0, none⟩ = some (.slice A0_0 l0_0.length c0_0) := (blk_cell BK357.out 0).trans rfl
  have hcz17_1 : w9.cell? ⟨gb357, 1, none⟩ = some (.slice A0_1 l0_1.length c0_1) := (blk_cell BK357.out 1).trans rfl
  have hfz17_0 := blk_frozen BK357.out 0
  have hfz17_1 := blk_frozen BK357.out 1
  go_wp2_with (first | ((with_reducible refine gate_callee (f := 28) rfl ?_); refine gL (some 15) Try.func28 #[.agg #[.slice A0_0 l0_0.length c0_0, .slice A0_1 l0_1.length c0_1]] rfl rfl ?_; (with_reducible refine (cantonref07_Right.calls k _ _ l0_0 _ _ l0_1 true _ ?side1 ?side2 ?side3 ?side4 A10.out).mono ?_); (case side1 => exact kC ((Kd.C_below HR0_0.out HB.out))); (case side2 => exact HC0_0.out); (case side3 => exact kC ((Kd.C_below HR0_1.out HB.out))); (case side4 => exact HC0_1.out); rintro e w18 ⟨rfl, hb⟩; refine ⟨_, rfl, ?_⟩; have n0_ := am_ (blk_below (kB BK357) hb); have n1_ := am_ (blk_below (kB BK358) hb); have n2_ := am_ (blk_below (kB BK359) hb); have n3_ := am_ (blk_below (kB BK360) hb); have n4_ := am_ (blk_below (kB BK361) hb); have n5_ := am_ (below_step (kZ HB) hb); clear BK357; clear BK358; clear BK359; clear BK360; clear BK361; clear HB; have BK357 := n0_; have BK358 := n1_; have BK359 := n2_; have BK360 := n3_; have BK361 := n4_; have HB := n5_; clear n0_ n1_ n2_ n3_ n4_ n5_; (try clear hb); (try clear hb2); (try clear hk); (try clear hi)) | (go_at_call 18; (with_reducible refine (cantonref11_Right.calls k _ _ l1 t363 _ ?side1 ?side2 A12.out).mono ?_); (case side1 => exact kC ((Kd.C_below HR1.out HB.out))); (case side2 => exact HC1.out); rintro e w19 ⟨rfl, hb⟩; have n0_ := am_ (blk_below (kB BK357) hb); have n1_ := am_ (blk_below (kB BK358) hb); have n2_ := am_ (blk_below (kB BK359) hb); have n3_ := am_ (blk_below (kB BK360) hb); have n4_ := am_ (blk_below (kB BK361) hb); have n5_ := am_ (below_step (kZ HB) hb); clear BK357; clear BK358; clear BK359; clear BK360; clear BK361; clear HB; have BK357 := n0_; have BK358 := n1_; have BK359 := n2_; have BK360 := n3_; have BK361 := n4_; have HB := n5_; clear n0_ n1_ n2_ n3_ n4_ n5_; (try clear hb); (try clear hb2); (try clear hk); (try clear hi)))
  go_meet
  case rel => exact ⟨_, (!t363), e1_, H', ⟨by first | omega | exact Nat.le_refl _⟩, ⟨kB BK357⟩, ⟨kB BK358⟩, ⟨kB BK359⟩, ⟨kB BK360⟩, ⟨kB BK361⟩, ⟨kZ HB⟩⟩
 case rest =>
  clear HC4
  try clear p2
  obtain ⟨kq, x21_3, rfl, HA, HJ3, BK357, BK358, BK359, BK360, BK361, HB⟩ := hcut
  cases kq with
  | zero => exact absurd HA.out (by simp [cantonref11_Cut.j0])
  | succ kj3 =>
   have H := HA.out
   clear HA
   simp only [cantonref11_Cut.j0] at H
   by_cases c26 : x21_3 = true
   rotate_left
   ·replace c26 := Bool.eq_false_iff.mpr c26
    subst c26
    have H1 : (cantonref11_Cut.l0 kj3 l1 a2 0 l0_0 l0_1 ([] : List (S40)) ([] : List (S40))) = some (r1, r2, r3, r4) := by rw [if_neg (show ¬ (false = true) by decide)] at H; exact H
    clear H
    have H := H1
    clear H1
    have H' := am_ H
    clear H
    go_wp2
    go_loopg [10] kj3 (fun kq v10 w' => ∃ (x10_2 : Int) (x361000_2 : List (S40)) (x362000_2 : List (S40)) (u361000 : Value) (u362000 : Value), v10 = .int .i64 x10_2 ∧ Aside0 (cantonref11_Cut.l0 kq l1 a2 x10_2 l0_0 l0_1 x361000_2 x362000_2 = some (r1, r2, r3, r4)) ∧ Aside0 (kq ≤ kj3) ∧ Aside0 (Kd.R k40 40 w' w.heap.size (fun k_ => some k_ ≠ (u362000 : Value).ownBlock) u361000 x361000_2) ∧ Aside0 (Kd.R k40 40 w' w.heap.size (fun k_ => some k_ ≠ (u361000 : Value).ownBlock) u362000 x362000_2) ∧ Aside0 (w'.heap[gb357]? = some (.cells #[(.slice A0_0 l0_0.length c0_0), (.slice A0_1 l0_1.length c0_1)] 34 (0, 0))) ∧ Aside0 (w'.heap[gb358]? = some (.cells #[(.slice none 0 0), (.slice none 0 0)] 34 (0, 0))) ∧ Aside0 (w'.heap[gb359]? = some (.cells #[(.slice none 0 0), (.slice none 0 0)] 34 (0, 0))) ∧ Aside0 (w'.heap[gb360]? = some (.cells #[u361000, (.slice none 0 0)] 34 (0, 0))) ∧ Aside0 (w'.heap[gb361]? = some (.cells #[u362000, (.slice none 0 0)] 34 (0, 0))) ∧ Aside0 (Below w.heap.size w w'))
    case atStart => exact ⟨(0), (([] : List (S40))), (([] : List (S40))), (.slice none 0 0), (.slice none 0 0), e1_, H', ⟨Nat.le_refl _⟩, ⟨nl_⟩, ⟨nl_⟩, ⟨kB BK357⟩, ⟨kB BK358⟩, ⟨kB BK359⟩, ⟨kB BK360⟩, ⟨kB BK361⟩, ⟨kZ HB⟩⟩
    case round =>
     clear H'
     try clear p2
     try clear p2
     obtain ⟨x10_2, x361000_2, x362000_2, u361000, u362000, rfl, HA, HK2, HO_361000, HO_362000, BK357, BK358, BK359, BK360, BK361, HB⟩ := hrel
     cases gk with
     | zero => exact absurd HA.out (by simp [cantonref11_Cut.l0])
     | succ k2 =>
      have H := HA.out
      clear HA
      simp only [cantonref11_Cut.l0] at H
      by_cases c32 : x10_2 < (l0_0.length : Int)
      rotate_left
      ·rw [if_neg c32] at H
       have c32b0 : decide (x10_2 < (l0_0.length : Int)) = false := decide_eq_false c32
       clear c32
       have H' := am_ H
       clear H
       have hnb76 := NB357_358.out
       have hnc76 := NB358_357.out
       have hnb77 := NB357_359.out
       have hnc77 := NB359_357.out
       have hnb78 := NB357_360.out
       have hnc78 := NB360_357.out
       have hnb79 := NB357_361.out
       have hnc79 := NB361_357.out
       have hcz80_0 : wr.cell? ⟨gb357, 0, none⟩ = some (.slice A0_0 l0_0.length c0_0) := (blk_cell BK357.out 0).trans rfl
       have hcz80_1 : wr.cell? ⟨gb357, 1, none⟩ = some (.slice A0_1 l0_1.length c0_1) := (blk_cell BK357.out 1).trans rfl
       have hfz80_0 := blk_frozen BK357.out 0
       have hfz80_1 := blk_frozen BK357.out 1
       go_wp2
       go_loopg [12] k2 (fun kq v12 w' => ∃ (x12_3 : Int) (x361001_3 : List (S59)) (x362001_3 : List (S59)) (u361001 : Value) (u362001 : Value), v12 = .int .i64 x12_3 ∧ Aside0 (cantonref11_Cut.l1 kq l1 a2 x12_3 l0_0 l0_1 x361000_2 x361001_3 x362000_2 x362001_3 = some (r1, r2, r3, r4)) ∧ Aside0 (kq ≤ k2) ∧ Aside0 (Kd.R k40 40 w' w.heap.size (fun k_ => some k_ ≠ (u362000 : Value).ownBlock) u361000 x361000_2) ∧ Aside0 (Kd.R k59 59 w' w.heap.size (fun k_ => some k_ ≠ (u362001 : Value).ownBlock) u361001 x361001_3) ∧ Aside0 (Kd.R k40 40 w' w.heap.size (fun k_ => some k_ ≠ (u361000 : Value).ownBlock) u362000 x362000_2) ∧ Aside0 (Kd.R k59 59 w' w.heap.size (fun k_ => some k_ ≠ (u361001 : Value).ownBlock) u362001 x362001_3) ∧ Aside0 (w'.heap[gb357]? = some (.cells #[(.slice A0_0 l0_0.length c0_0), (.slice A0_1 l0_1.length c0_1)] 34 (0, 0))) ∧ Aside0 (w'.heap[gb358]? = some (.cells #[(.slice none 0 0), (.slice none 0 0)] 34 (0, 0))) ∧ Aside0 (w'.heap[gb359]? = some (.cells #[(.slice none 0 0), (.slice none 0 0)] 34 (0, 0))) ∧ Aside0 (w'.heap[gb360]? = some (.cells #[u361000, u361001] 34 (0, 0))) ∧ Aside0 (w'.heap[gb361]? = some (.cells #[u362000, u362001] 34 (0, 0))) ∧ Aside0 (Below w.heap.size w w'))
       case atStart => exact ⟨(0), (([] : List (S59))), (([] : List (S59))), (.slice none 0 0), (.slice none 0 0), e1_, H', ⟨Nat.le_refl _⟩, ⟨kR HO_361000⟩, ⟨nl_⟩, ⟨kR HO_362000⟩, ⟨nl_⟩, ⟨kB BK357⟩, ⟨kB BK358⟩, ⟨kB BK359⟩, ⟨kB BK360⟩, ⟨kB BK361⟩, ⟨kZ HB⟩⟩
       case round =>
        clear H'
        try clear p2
        try clear p3
        try clear q3
        try clear hx3
        try clear p6
        try clear c32b0
        try clear c36b0
        try clear p36
        try clear q36
        try clear hx36
        try clear p37
        try clear q37
        try clear hx37
        try clear c39b0
        try clear c39b1
        try clear p64
        try clear hx364_0
        try clear hx364_1
        try clear hx364_2
        try clear hx364_3
        try clear hx364_4
        try clear hx367_0
        try clear hx367_1
        try clear hx367_2
        try clear hx372_0
        try clear hx372_1
        try clear hx372_2
        try clear hx372_3
        try clear hx372_4
        try clear hx376_0
        try clear hx376_1
        try clear hx376_2
        try clear hx376_3
        try clear hx376_4
        try clear p364
        try clear p367
        try clear p372
        try clear p376
        try clear q364
        try clear q367
        try clear q372
        try clear q376
        obtain ⟨x12_3, x361001_3, x362001_3, u361001, u362001, rfl, HA, HK3, HO_361000, HO_361001, HO_362000, HO_362001, BK357, BK358, BK359, BK360, BK361, HB⟩ := hrel
        cases gk with
        | zero => exact absurd HA.out (by simp [cantonref11_Cut.l1])
        | succ k3 =>
         have H := HA.out
         clear HA
         simp only [cantonref11_Cut.l1] at H
         by_cases c81 : x12_3 < (l0_1.length : Int)
         rotate_left
         ·rw [if_neg c81] at H
          have c81b0 : decide (x12_3 < (l0_1.length : Int)) = false := decide_eq_false c81
          clear c81
          simp only [Option.some.injEq, Prod.mk.injEq] at H
          obtain ⟨rfl, rfl, rfl, rfl⟩ := H
          have hnb121 := NB357_358.out
          have hnc121 := NB358_357.out
          have hnb122 := NB357_359.out
          have hnc122 := NB359_357.out
          have hnb123 := NB357_360.out
          have hnc123 := NB360_357.out
          have hnb124 := NB357_361.out
          have hnc124 := NB361_357.out
          have hcz125_0 : wr.cell? ⟨gb357, 0, none⟩ = some (.slice A0_0 l0_0.length c0_0) := (blk_cell BK357.out 0).trans rfl
          have hcz125_1 : wr.cell? ⟨gb357, 1, none⟩ = some (.slice A0_1 l0_1.length c0_1) := (blk_cell BK357.out 1).trans rfl
          have hfz125_0 := blk_frozen BK357.out 0
          have hfz125_1 := blk_frozen BK357.out 1
          try go_wp2
          have n0_ := am_ (Kd.R_drew HO_361000.out)
          have n1_ := am_ (Kd.R_drew HO_361001.out)
          have n2_ := am_ (Kd.R_drew HO_362000.out)
          have n3_ := am_ (Kd.R_drew HO_362001.out)
          have n4_ := am_ (blk_drew BK357.out)
          have n5_ := am_ (blk_drew BK358.out)
          have n6_ := am_ (blk_drew BK359.out)
          have n7_ := am_ (blk_drew BK360.out)
          have n8_ := am_ (blk_drew BK361.out)
          have n9_ := am_ (below_drew1 HB.out)
          clear HO_361000
          clear HO_361001
          clear HO_362000
          clear HO_362001
          clear BK357
          clear BK358
          clear BK359
          clear BK360
          clear BK361
          clear HB
          have HO_361000 := n0_
          have HO_361001 := n1_
          have HO_362000 := n2_
          have HO_362001 := n3_
          have BK357 := n4_
          have BK358 := n5_
          have BK359 := n6_
          have BK360 := n7_
          have BK361 := n8_
          have HB := n9_
          clear n0_ n1_ n2_ n3_ n4_ n5_ n6_ n7_ n8_ n9_
          obtain ⟨Ao127, co127, eo127⟩ := Kd.R_slice HO_361000.out
          (first | subst eo127 | (injection eo127 with f1_ f2_ f3_; have f4_ := f1_.symm; have f5_ := f3_.symm; clear f1_ f2_ f3_; subst f4_; subst f5_))
          obtain ⟨Ao129, co129, eo129⟩ := Kd.R_slice HO_361001.out
          (first | subst eo129 | (injection eo129 with f1_ f2_ f3_; have f4_ := f1_.symm; have f5_ := f3_.symm; clear f1_ f2_ f3_; subst f4_; subst f5_))
          obtain ⟨Ao131, co131, eo131⟩ := Kd.R_slice HO_362000.out
          (first | subst eo131 | (injection eo131 with f1_ f2_ f3_; have f4_ := f1_.symm; have f5_ := f3_.symm; clear f1_ f2_ f3_; subst f4_; subst f5_))
          obtain ⟨Ao133, co133, eo133⟩ := Kd.R_slice HO_362001.out
          (first | subst eo133 | (injection eo133 with f1_ f2_ f3_; have f4_ := f1_.symm; have f5_ := f3_.symm; clear f1_ f2_ f3_; subst f4_; subst f5_))
          refine start_ (n := 4) (S := fun w' => w'.cell? ⟨gb360, 0, none⟩ = some (.slice Ao127 x361000_2.length co127) ∧ w'.cell? ⟨gb360, 1, none⟩ = some (.slice Ao129 x361001_3.length co129) ∧ w'.cell? ⟨gb361, 0, none⟩ = some (.slice Ao131 x362000_2.length co131) ∧ w'.cell? ⟨gb361, 1, none⟩ = some (.slice Ao133 x362001_3.length co133)) (ds := []) #[false, false, false, false] (by kernel_rfl) rfl rfl ⟨(blk_cell BK360.out 0).trans rfl, (blk_cell BK360.out 1).trans rfl, (blk_cell BK361.out 0).trans rfl, (blk_cell BK361.out 1).trans rfl⟩ (fun hHeld => ?_)
          generalize wr.drew = w126 at HO_361000 HO_361001 HO_362000 HO_362001 BK357 BK358 BK359 BK360 BK361 HB hHeld ⊢
          refine take_ (i := 0) (N := some 117) (v := ?_) (a' := ?_) #[true, false, false, false] rfl rfl (by kernel_rfl) (fun _ _ _ h => h) (Or.inl ⟨by rfl, ?_⟩) hHeld ?_ ?_
          rotate_left
          ·rintro w' ⟨s0, s1, s2, s3⟩
           go_simp
           with_reducible rfl
          rotate_left
          ·simp only [Act.put, List.setIfInBounds_toArray, List.set_cons_zero, List.set_cons_succ, i64_w, i32_w]
           rfl
          refine take_ (i := 1) (N := some 118) (v := ?_) (a' := ?_) #[true, true, false, false] rfl rfl (by kernel_rfl) (fun _ _ _ h => h) (Or.inl ⟨by rfl, ?_⟩) hHeld ?_ ?_
          rotate_left
          ·rintro w' ⟨s0, s1, s2, s3⟩
           go_simp
           with_reducible rfl
          rotate_left
          ·simp only [Act.put, List.setIfInBounds_toArray, List.set_cons_zero, List.set_cons_succ, i64_w, i32_w]
           rfl
          refine one_ (i := 2) (N := none) #[true, true, true, false] rfl rfl (by kernel_rfl) (by decide) (fun K hK => ?_)
          have hs128 : w126.cell? ⟨gb358, 0, none⟩ = some (.slice none 0 0) := (blk_cell BK358.out 0).trans rfl
          have hfs128 := blk_frozen BK358.out 0
          have hns128_0 := NB357_358.out
          have hns128_2 := NB359_358.out
          have hns128_3 := NB360_358.out
          have hns128_4 := NB361_358.out
          have hms128_0 := NB358_357.out
          have hms128_2 := NB358_359.out
          have hms128_3 := NB358_360.out
          have hms128_4 := NB358_361.out
          have hs130 : w126.cell? ⟨gb358, 1, none⟩ = some (.slice none 0 0) := (blk_cell BK358.out 1).trans rfl
          have hfs130 := blk_frozen BK358.out 1
          have hns130_0 := NB357_358.out
          have hns130_2 := NB359_358.out
          have hns130_3 := NB360_358.out
          have hns130_4 := NB361_358.out
          have hms130_0 := NB358_357.out
          have hms130_2 := NB358_359.out
          have hms130_3 := NB358_360.out
          have hms130_4 := NB358_361.out
          refine skip_ (w1 := ?_) (by rfl) rfl ?_ ?_
          rotate_left
          ·go_simp
           rfl
          refine hK.out _ _ ⟨((cell_far (p := ⟨gb358, _, none⟩) NB360_358.out _).trans (((cell_far (p := ⟨gb358, _, none⟩) NB360_358.out _).trans (hHeld.1)))), ((cell_far (p := ⟨gb358, _, none⟩) NB360_358.out _).trans (((cell_far (p := ⟨gb358, _, none⟩) NB360_358.out _).trans (hHeld.2.1)))), ((cell_far (p := ⟨gb358, _, none⟩) NB361_358.out _).trans (((cell_far (p := ⟨gb358, _, none⟩) NB361_358.out _).trans (hHeld.2.2.1)))), ((cell_far (p := ⟨gb358, _, none⟩) NB361_358.out _).trans (((cell_far (p := ⟨gb358, _, none⟩) NB361_358.out _).trans (hHeld.2.2.2))))⟩ (fun hHeld => ?_)
          clear hK K
          refine one_ (i := 3) (N := none) #[true, true, true, true] rfl rfl (by kernel_rfl) (by decide) (fun K hK => ?_)
          have hs132 : w126.cell? ⟨gb359, 0, none⟩ = some (.slice none 0 0) := (blk_cell BK359.out 0).trans rfl
          have hfs132 := blk_frozen BK359.out 0
          have hns132_0 := NB357_359.out
          have hns132_1 := NB358_359.out
          have hns132_3 := NB360_359.out
          have hns132_4 := NB361_359.out
          have hms132_0 := NB359_357.out
          have hms132_1 := NB359_358.out
          have hms132_3 := NB359_360.out
          have hms132_4 := NB359_361.out
          have hs134 : w126.cell? ⟨gb359, 1, none⟩ = some (.slice none 0 0) := (blk_cell BK359.out 1).trans rfl
          have hfs134 := blk_frozen BK359.out 1
          have hns134_0 := NB357_359.out
          have hns134_1 := NB358_359.out
          have hns134_3 := NB360_359.out
          have hns134_4 := NB361_359.out
          have hms134_0 := NB359_357.out
          have hms134_1 := NB359_358.out
          have hms134_3 := NB359_360.out
          have hms134_4 := NB359_361.out
          refine skip_ (w1 := ?_) (by rfl) rfl ?_ ?_
          rotate_left
          ·go_simp
           rfl
          refine hK.out _ _ ⟨((cell_far (p := ⟨gb359, _, none⟩) NB360_359.out _).trans (((cell_far (p := ⟨gb359, _, none⟩) NB360_359.out _).trans (hHeld.1)))), ((cell_far (p := ⟨gb359, _, none⟩) NB360_359.out _).trans (((cell_far (p := ⟨gb359, _, none⟩) NB360_359.out _).trans (hHeld.2.1)))), ((cell_far (p := ⟨gb359, _, none⟩) NB361_359.out _).trans (((cell_far (p := ⟨gb359, _, none⟩) NB361_359.out _).trans (hHeld.2.2.1)))), ((cell_far (p := ⟨gb359, _, none⟩) NB361_359.out _).trans (((cell_far (p := ⟨gb359, _, none⟩) NB361_359.out _).trans (hHeld.2.2.2))))⟩ (fun hHeld => ?_)
          clear hK K
          refine done_ (by kernel_rfl) ?_
          try go_wp2
          refine bodyPost_ret (results_cc rfl _ _ gb358 gb359 34 34 #[.slice Ao127 x361000_2.length co127, .slice Ao129 x361001_3.length co129] #[.slice Ao131 x362000_2.length co131, .slice Ao133 x362001_3.length co133] (0, 0) (0, 0) _ _ rfl (by refine kD ?_; refine blk_far ?_ NB358_359.out _; refine kD ?_; refine blk_far ?_ NB358_359.out _; refine kD ?_; refine blk_put (cs := #[.slice Ao127 x361000_2.length co127, .slice none 0 0]) ?_ 1 _ rfl; refine kD ?_; refine blk_put (cs := #[.slice none 0 0, .slice none 0 0]) ?_ 0 _ rfl; refine kD ?_; exact BK358.out) Try.underlying34 rfl (by kernel_rfl) rfl (by refine kD ?_; refine blk_put (cs := #[.slice Ao131 x362000_2.length co131, .slice none 0 0]) ?_ 1 _ rfl; refine kD ?_; refine blk_put (cs := #[.slice none 0 0, .slice none 0 0]) ?_ 0 _ rfl; refine kD ?_; refine blk_far ?_ NB359_358.out _; refine kD ?_; refine blk_far ?_ NB359_358.out _; refine kD ?_; exact BK359.out) Try.underlying34 rfl (by kernel_rfl)) rfl ?_
          exact ⟨_, _, _, _, e2_, by refine kE ?_; exact Kd.R_mono (Kd.R_far (p := ⟨gb359, 1, none⟩) (Kd.R_far (p := ⟨gb359, 0, none⟩) (Kd.R_far (p := ⟨gb358, 1, none⟩) (Kd.R_far (p := ⟨gb358, 0, none⟩) (Kd.R_types (Kd.R_types HO_361000.out BK358.out (by decide)) BK359.out (by decide)) (fun _ hk => hk.1.2) (.slice Ao127 x361000_2.length co127)) (fun _ hk => hk.1.2) (.slice Ao129 x361001_3.length co129)) (fun _ hk => hk.2) (.slice Ao131 x362000_2.length co131)) (fun _ hk => hk.2) (.slice Ao133 x362001_3.length co133)) (fun _ hk => hk.1.1), by refine kE ?_; exact Kd.R_mono (Kd.R_far (p := ⟨gb359, 1, none⟩) (Kd.R_far (p := ⟨gb359, 0, none⟩) (Kd.R_far (p := ⟨gb358, 1, none⟩) (Kd.R_far (p := ⟨gb358, 0, none⟩) (Kd.R_types (Kd.R_types HO_361001.out BK358.out (by decide)) BK359.out (by decide)) (fun _ hk => hk.1.2) (.slice Ao127 x361000_2.length co127)) (fun _ hk => hk.1.2) (.slice Ao129 x361001_3.length co129)) (fun _ hk => hk.2) (.slice Ao131 x362000_2.length co131)) (fun _ hk => hk.2) (.slice Ao133 x362001_3.length co133)) (fun _ hk => hk.1.1), by refine kE ?_; exact Kd.R_mono (Kd.R_far (p := ⟨gb359, 1, none⟩) (Kd.R_far (p := ⟨gb359, 0, none⟩) (Kd.R_far (p := ⟨gb358, 1, none⟩) (Kd.R_far (p := ⟨gb358, 0, none⟩) (Kd.R_types (Kd.R_types HO_362000.out BK358.out (by decide)) BK359.out (by decide)) (fun _ hk => hk.1.2) (.slice Ao127 x361000_2.length co127)) (fun _ hk => hk.1.2) (.slice Ao129 x361001_3.length co129)) (fun _ hk => hk.2) (.slice Ao131 x362000_2.length co131)) (fun _ hk => hk.2) (.slice Ao133 x362001_3.length co133)) (fun _ hk => hk.1.1), by refine kE ?_; exact Kd.R_mono (Kd.R_far (p := ⟨gb359, 1, none⟩) (Kd.R_far (p := ⟨gb359, 0, none⟩) (Kd.R_far (p := ⟨gb358, 1, none⟩) (Kd.R_far (p := ⟨gb358, 0, none⟩) (Kd.R_types (Kd.R_types HO_362001.out BK358.out (by decide)) BK359.out (by decide)) (fun _ hk => hk.1.2) (.slice Ao127 x361000_2.length co127)) (fun _ hk => hk.1.2) (.slice Ao129 x361001_3.length co129)) (fun _ hk => hk.2) (.slice Ao131 x362000_2.length co131)) (fun _ hk => hk.2) (.slice Ao133 x362001_3.length co133)) (fun _ hk => hk.1.1), kZ HB⟩

         rw [if_pos c81] at H
         have c81b0 : decide (x12_3 < (l0_1.length : Int)) = true := decide_eq_true c81
         clear c81
         by_cases c82 : 0 ≤ x12_3
         rotate_left
         ·rw [if_neg c82] at H
          exact absurd H (by simp)
         rw [if_pos c82] at H
         have c82b0 : decide (0 ≤ x12_3) = true := decide_eq_true c82
         clear c82
         replace H := Option.bind_eq_some_iff.mp H
         obtain ⟨t381, A830, H⟩ := H
         replace H : (if t381 ≥ 0 then (if 0 ≤ t381 then (if t381 < (l1.length : Int) then (if ((rd_T45 l1 t381).f0).toList = a2.toList then (if x361001_3.length < 5864062014805 then (cantonref11_Cut.l1 k3 l1 a2 (wrap64 (x12_3 + 1)) l0_0 l0_1 x361000_2 (x361001_3 ++ [(⟨(rd_T59 l0_1 x12_3).f0, (rd_T59 l0_1 x12_3).f1⟩ : S59)]) x362000_2 x362001_3) else (none)) else (if x362001_3.length < 5864062014805 then (cantonref11_Cut.l1 k3 l1 a2 (wrap64 (x12_3 + 1)) l0_0 l0_1 x361000_2 x361001_3 x362000_2 (x362001_3 ++ [(⟨(rd_T59 l0_1 x12_3).f0, (rd_T59 l0_1 x12_3).f1⟩ : S59)])) else (none))) else (none)) else (none)) else (if x362001_3.length < 5864062014805 then (cantonref11_Cut.l1 k3 l1 a2 (wrap64 (x12_3 + 1)) l0_0 l0_1 x361000_2 x361001_3 x362000_2 (x362001_3 ++ [(⟨(rd_T59 l0_1 x12_3).f0, (rd_T59 l0_1 x12_3).f1⟩ : S59)])) else (none))) = some (r1, r2, r3, r4) := H
         have A83 := am_ A830
         clear A830
         by_cases c84 : t381 ≥ 0
         rotate_left
         ·rw [if_neg c84] at H
          have c84b0 : decide (0 ≤ t381) = false := decide_eq_false c84
          clear c84
          by_cases c110 : x362001_3.length < 5864062014805
          rotate_left
          ·rw [if_neg c110] at H
           exact absurd H (by simp)
          rw [if_pos c110] at H
          have LMc110 := am_ c110
          clear c110
          obtain ⟨y392, hy392⟩ : ∃ y_ : List (S59), y_ = (x362001_3 ++ [(⟨(rd_T59 l0_1 x12_3).f0, (rd_T59 l0_1 x12_3).f1⟩ : S59)]) := ⟨_, rfl⟩
          replace H : (cantonref11_Cut.l1 k3 l1 a2 (wrap64 (x12_3 + 1)) l0_0 l0_1 x361000_2 x361001_3 x362000_2 y392) = some (r1, r2, r3, r4) := by first | (rw [hy392]; with_reducible exact H) | (have H2_ := (Option.bind_some _ _).symm.trans H; rw [hy392]; with_reducible exact H2_) | (have H2_ := (Option.bind_some _ _).symm.trans H; with_reducible exact H2_) | with_reducible exact H | (rw [hy392]; exact H) | exact H
          have Ny392 := am_ hy392
          clear hy392
          have H' := am_ H
          clear H
          have hnb111 := NB357_358.out
          have hnc111 := NB358_357.out
          have hnb112 := NB357_359.out
          have hnc112 := NB359_357.out
          have hnb113 := NB357_360.out
          have hnc113 := NB360_357.out
          have hnb114 := NB357_361.out
          have hnc114 := NB361_357.out
          have hcz115_0 : wr.cell? ⟨gb357, 0, none⟩ = some (.slice A0_0 l0_0.length c0_0) := (blk_cell BK357.out 0).trans rfl
          have hcz115_1 : wr.cell? ⟨gb357, 1, none⟩ = some (.slice A0_1 l0_1.length c0_1) := (blk_cell BK357.out 1).trans rfl
          have hfz115_0 := blk_frozen BK357.out 0
          have hfz115_1 := blk_frozen BK357.out 1
          have p380 : 0 ≤ (x12_3 : Int) := od_
          have q380 : x12_3 < (l0_1.length : Int) := od_
          obtain ⟨ad380, e380, hx380_0, hx380_1⟩ := at_T59 HR0_1.out x12_3 p380 q380
          cases e380
          replace hx380_0 := pw_cell_below HB.out hx380_0
          replace hx380_1 := pw_cell_below HB.out hx380_1
          replace p380 := eq_true p380
          replace q380 := eq_true q380
          try go_wp2_with (first | ((with_reducible refine gate_callee (f := 20) rfl ?_); refine gL (some 85) Try.func20 #[.slice A1 l1.length c1, .string ((rd_T59 l0_1 x12_3).f0)] rfl rfl ?_; (with_reducible refine (cantonref11_Of.calls k3 _ _ l1 ((rd_T59 l0_1 x12_3).f0) t381 _ ?side1 ?side2 A83.out).mono ?_); (case side1 => exact kC ((Kd.C_below HR1.out HB.out))); (case side2 => exact HC1.out); rintro e w116 ⟨rfl, hb⟩; refine ⟨_, rfl, ?_⟩; have n0_ := am_ (Kd.R_below (kR HO_361000) hb); have n1_ := am_ (Kd.R_below (kR HO_361001) hb); have n2_ := am_ (Kd.R_below (kR HO_362000) hb); have n3_ := am_ (Kd.R_below (kR HO_362001) hb); have n4_ := am_ (blk_below (kB BK357) hb); have n5_ := am_ (blk_below (kB BK358) hb); have n6_ := am_ (blk_below (kB BK359) hb); have n7_ := am_ (blk_below (kB BK360) hb); have n8_ := am_ (blk_below (kB BK361) hb); have n9_ := am_ (below_step (kZ HB) hb); clear HO_361000; clear HO_361001; clear HO_362000; clear HO_362001; clear BK357; clear BK358; clear BK359; clear BK360; clear BK361; clear HB; have HO_361000 := n0_; have HO_361001 := n1_; have HO_362000 := n2_; have HO_362001 := n3_; have BK357 := n4_; have BK358 := n5_; have BK359 := n6_; have BK360 := n7_; have BK361 := n8_; have HB := n9_; clear n0_ n1_ n2_ n3_ n4_ n5_ n6_ n7_ n8_ n9_; (try clear hb); (try clear hb2); (try clear hk); (try clear hi)))
          have n0_ := am_ (Kd.R_drew HO_361000.out)
          have n1_ := am_ (Kd.R_drew HO_361001.out)
          have n2_ := am_ (Kd.R_drew HO_362000.out)
          have n3_ := am_ (Kd.R_drew HO_362001.out)
          have n4_ := am_ (blk_drew BK357.out)
          have n5_ := am_ (blk_drew BK358.out)
          have n6_ := am_ (blk_drew BK359.out)
          have n7_ := am_ (blk_drew BK360.out)
          have n8_ := am_ (blk_drew BK361.out)
          have n9_ := am_ (below_drew1 HB.out)
          clear HO_361000
          clear HO_361001
          clear HO_362000
          clear HO_362001
          clear BK357
          clear BK358
          clear BK359
          clear BK360
          clear BK361
          clear HB
          have HO_361000 := n0_
          have HO_361001 := n1_
          have HO_362000 := n2_
          have HO_362001 := n3_
          have BK357 := n4_
          have BK358 := n5_
          have BK359 := n6_
          have BK360 := n7_
          have BK361 := n8_
          have HB := n9_
          clear n0_ n1_ n2_ n3_ n4_ n5_ n6_ n7_ n8_ n9_
          have p391 : 0 ≤ (x12_3 : Int) := od_
          have q391 : x12_3 < (l0_1.length : Int) := od_
          obtain ⟨ad391, e391, hx391_0, hx391_1⟩ := at_T59 HR0_1.out x12_3 p391 q391
          have hw391_1 := hx391_1
          have hw391_0 := hx391_0
          obtain rfl : ad380 = ad391 := (by injection e391)
          replace hx391_0 := pw_cell_below HB.out hx391_0
          replace hx391_1 := pw_cell_below HB.out hx391_1
          replace p391 := eq_true p391
          replace q391 := eq_true q391
          refine start_ (n := 11) (S := fun w' => w'.cell? ⟨gb361, 0, none⟩ = some (u362000) ∧ w'.cell? ⟨gb361, 1, none⟩ = some (u362001) ∧ w'.cell? ⟨gb357, 0, none⟩ = some (.slice A0_0 l0_0.length c0_0) ∧ w'.cell? ⟨gb357, 1, none⟩ = some (.slice (some ad380) l0_1.length c0_1) ∧ w'.cell? (ad380.add ((x12_3).toNat * 2)) = some (.string ((rd_T59 l0_1 x12_3).f0)) ∧ w'.cell? ⟨(ad380.add ((x12_3).toNat * 2)).block, (ad380.add ((x12_3).toNat * 2)).off + 1, none⟩ = some (.int .i64 ((rd_T59 l0_1 x12_3).f1))) (ds := [10]) x18tr11_0 (by kernel_rfl) rfl rfl ⟨(blk_cell BK361.out 0).trans rfl, (blk_cell BK361.out 1).trans rfl, (blk_cell BK357.out 0).trans rfl, (blk_cell BK357.out 1).trans rfl, (pw_cell_below HB.out hw391_0), (pw_cell_below HB.out hw391_1)⟩ (fun hHeld => ?_); refine with_tabW cantonref11_Cut.tab18 cantonref11_Cut.bits18 (fun HT_ HW_ => ?_)
          generalize w116.drew = w117 at HO_361000 HO_361001 HO_362000 HO_362001 BK357 BK358 BK359 BK360 BK361 HB hx391_0 hx391_1 hHeld ⊢
          refine pA_ 0 107 x18tr11_1 HT_.out ?_
          refine pA_ 2 109 x18tr11_m10100000000 HT_.out ?_
          refine pA_ 4 111 x18tr11_m10101000000 HT_.out ?_
          refine tA_ 1 108 x18tr11_m11101000000 HT_.out HW_.out hHeld ?_
          refine tA_ 3 110 x18tr11_5 HT_.out HW_.out hHeld ?_
          refine pA_ 5 112 x18tr11_6 HT_.out ?_
          refine tA_ 6 113 x18tr11_7 HT_.out HW_.out hHeld ?_
          refine one_ (i := 7) (N := some 114) x18tr11_8 rfl rfl (one_of HT_.out (by kernel_rfl)) (by decide) (fun K hK => ?_)
          refine value_ (w1 := ?_) (v := ?_) (by rfl) rfl ?_ ?_
          rotate_left 2
          ·go_simp
           constructor
           ·rfl
           ·rfl
          refine hK.out _ _ ⟨(blk_cell (blk_alloc BK361.out _) 0).trans rfl, (blk_cell (blk_alloc BK361.out _) 1).trans rfl, (blk_cell (blk_alloc BK357.out _) 0).trans rfl, (blk_cell (blk_alloc BK357.out _) 1).trans rfl, (World.cell?_alloc_lt _ _ _ (World.block_lt_of_cell? _ _ ((pw_cell_below HB.out hw391_0)))).trans ((pw_cell_below HB.out hw391_0)), (World.cell?_alloc_lt _ _ _ (World.block_lt_of_cell? _ _ ((pw_cell_below HB.out hw391_1)))).trans ((pw_cell_below HB.out hw391_1))⟩ (fun hHeld => ?_)
          clear hK K
          refine norm_ (a' := ?_) ?_ ?_
          rotate_left
          ·show Act.put _ (some 114) _ = _
           simp only [Act.put, List.setIfInBounds_toArray, List.set_cons_zero, List.set_cons_succ, i64_w, i32_w]
           rfl
          refine one_ (i := 8) (N := some 115) x18tr11_9 rfl rfl (one_of HT_.out (by kernel_rfl)) (by decide) (fun K hK => ?_)
          refine Kd.R_append_step k59 (w0 := w) w.heap.size (by rfl) (.tmp 108) (.tmp 114) 32 59 (.agg #[(.string ⟨#[]⟩), (.int .i64 0)]) 24 rfl Try.underlying32 info59 rfl (by decide) (by omega) u362001 x362001_3 (⟨(rd_T59 l0_1 x12_3).f0, (rd_T59 l0_1 x12_3).f1⟩ : S59) [.string ((rd_T59 l0_1 x12_3).f0), .int .i64 ((rd_T59 l0_1 x12_3).f1)] (fun k_ => some k_ ≠ (u361001 : Value).ownBlock) (fun _ => False) rfl rfl ?aP (fun _ hk => hk.elim) ?aF ?aO ?aB ?aS ?aL ?_
          (case aP => exact k59_mkM _ _ _ (⟨(rd_T59 l0_1 x12_3).f0, (rd_T59 l0_1 x12_3).f1⟩ : S59))
          (case aB => exact (kZ HB))
          (case aF => exact (fun k_ hk => Kd.fresh' (Kd.R_lt (kR HO_361001)) k_ hk))
          (case aO => exact (kR HO_362001))
          (case aS => exact (below_size (kZ HB)))
          (case aL => have := LMc110.out; omega)
          intro v393 w118 ho hb hg hat
          rw [← Ny392.out] at ho
          have n0_ := am_ (Kd.R_over' (kR HO_361000) (Kd.R_typed (kR HO_362001)) (by decide) hg)
          have n1_ := am_ (Kd.R_after (ok := (fun _ => True)) (by refine kE ?_; exact Kd.R_mono HO_361001.out (fun _ hk => ⟨trivial, hk⟩)) hg hat)
          have n2_ := am_ (Kd.R_over' (kR HO_362000) (Kd.R_typed (kR HO_362001)) (by decide) hg)
          have n3_ := am_ (blk_grown (kB BK357) hg (Kd.R_ne HO_362001.out BK357.out (by decide)))
          have n4_ := am_ (blk_grown (kB BK358) hg (Kd.R_ne HO_362001.out BK358.out (by decide)))
          have n5_ := am_ (blk_grown (kB BK359) hg (Kd.R_ne HO_362001.out BK359.out (by decide)))
          have n6_ := am_ (blk_grown (kB BK360) hg (Kd.R_ne HO_362001.out BK360.out (by decide)))
          have n7_ := am_ (blk_grown (kB BK361) hg (Kd.R_ne HO_362001.out BK361.out (by decide)))
          have n8_ := am_ (hb)
          have n9_ := am_ (ho)
          clear HO_361000
          clear HO_361001
          clear HO_362000
          clear BK357
          clear BK358
          clear BK359
          clear BK360
          clear BK361
          clear HB
          clear HO_362001
          have HO_361000 := n0_
          have HO_361001 := n1_
          have HO_362000 := n2_
          have BK357 := n3_
          have BK358 := n4_
          have BK359 := n5_
          have BK360 := n6_
          have BK361 := n7_
          have HB := n8_
          have HO394 := n9_
          clear n0_ n1_ n2_ n3_ n4_ n5_ n6_ n7_ n8_ n9_
          clear ho hb hg hat
          obtain ⟨Ao119, co119, eo119⟩ := Kd.R_slice HO394.out
          (first | subst eo119 | (injection eo119 with f1_ f2_ f3_; have f4_ := f1_.symm; have f5_ := f3_.symm; clear f1_ f2_ f3_; subst f4_; subst f5_))
          refine hK.out _ _ ⟨(blk_cell BK361.out 0).trans rfl, (blk_cell BK361.out 1).trans rfl, (blk_cell BK357.out 0).trans rfl, (blk_cell BK357.out 1).trans rfl, (pw_cell_below HB.out hw391_0), (pw_cell_below HB.out hw391_1)⟩ (fun hHeld => ?_)
          clear hK K
          refine norm_ (a' := ?_) ?_ ?_
          rotate_left
          ·show Act.put _ (some 115) _ = _
           simp only [Act.put, List.setIfInBounds_toArray, List.set_cons_zero, List.set_cons_succ, i64_w, i32_w]
           rfl
          refine pA_ 9 116 x18tr11_10 HT_.out ?_
          refine last_ (i := 10) (N := none) x18tr11_11 rfl rfl (one_of HT_.out (by kernel_rfl)) (by decide) (fun K hK => ?_)
          have hs120 : w118.cell? ⟨gb361, 1, none⟩ = some (u362001) := (blk_cell BK361.out 1).trans rfl
          have hfs120 := blk_frozen BK361.out 1
          have hns120_0 := NB357_361.out
          have hns120_1 := NB358_361.out
          have hns120_2 := NB359_361.out
          have hns120_3 := NB360_361.out
          have hms120_0 := NB361_357.out
          have hms120_1 := NB361_358.out
          have hms120_2 := NB361_359.out
          have hms120_3 := NB361_360.out
          refine skip_ (w1 := ?_) (by rfl) rfl ?_ ?_
          rotate_left
          ·go_simp
           rfl
          refine hK.out _ _ ?_
          clear hK K
          refine done_ (done_of HT_.out (by kernel_rfl)) ?_
          try go_wp2
          go_roundg k3
          case measure => have := HJ3.out; have := HK2.out; have := HK3.out; omega
          case rel => exact ⟨(wrap64 (x12_3 + 1)), (x361001_3), (y392), (u361001), (.slice Ao119 y392.length co119), e1_, H', ⟨by have := HJ3.out; have := HK2.out; have := HK3.out; omega⟩, ⟨by refine kE ?_; exact Kd.R_mono (Kd.R_far (p := ⟨gb361, 1, none⟩) (Kd.R_types HO_361000.out BK361.out (by decide)) (fun _ hk => hk.2) (.slice Ao119 y392.length co119)) (fun _ hk => hk.1)⟩, ⟨by refine kE ?_; exact Kd.R_mono (Kd.R_far (p := ⟨gb361, 1, none⟩) (Kd.R_types HO_361001.out BK361.out (by decide)) (fun _ hk => hk.2) (.slice Ao119 y392.length co119)) (fun _ hk => hk.1.2)⟩, ⟨by refine kE ?_; exact Kd.R_mono (Kd.R_far (p := ⟨gb361, 1, none⟩) (Kd.R_types HO_362000.out BK361.out (by decide)) (fun _ hk => hk.2) (.slice Ao119 y392.length co119)) (fun _ hk => hk.1)⟩, ⟨by refine kE ?_; exact Kd.R_mono (Kd.R_far (p := ⟨gb361, 1, none⟩) (Kd.R_types HO394.out BK361.out (by decide)) (fun _ hk => hk.2) (.slice Ao119 y392.length co119)) (fun _ hk => hk.1)⟩, ⟨by refine kD ?_; refine blk_far ?_ NB357_361.out _; refine kD ?_; exact BK357.out⟩, ⟨by refine kD ?_; refine blk_far ?_ NB358_361.out _; refine kD ?_; exact BK358.out⟩, ⟨by refine kD ?_; refine blk_far ?_ NB359_361.out _; refine kD ?_; exact BK359.out⟩, ⟨by refine kD ?_; refine blk_far ?_ NB360_361.out _; refine kD ?_; exact BK360.out⟩, ⟨by refine kD ?_; refine blk_put (cs := #[u362000, u362001]) ?_ 1 _ rfl; refine kD ?_; exact BK361.out⟩, ⟨kZ HB⟩⟩
         rw [if_pos c84] at H
         have c84b0 : decide (0 ≤ t381) = true := decide_eq_true c84
         clear c84
         by_cases c85 : 0 ≤ t381
         rotate_left
         ·rw [if_neg c85] at H
          exact absurd H (by simp)
         rw [if_pos c85] at H
         have c85b0 : decide (0 ≤ t381) = true := decide_eq_true c85
         clear c85
         by_cases c86 : t381 < (l1.length : Int)
         rotate_left
         ·rw [if_neg c86] at H
          exact absurd H (by simp)
         rw [if_pos c86] at H
         have c86b0 : decide (t381 < (l1.length : Int)) = true := decide_eq_true c86
         clear c86
         by_cases c87 : ((rd_T45 l1 t381).f0).toList = a2.toList
         rotate_left
         ·rw [if_neg c87] at H
          have c87b0 : (((rd_T45 l1 t381).f0).toList == a2.toList) = false := beq_eq_false_iff_ne.mpr c87
          have c87b1 : (((rd_T45 l1 t381).f0).toList != a2.toList) = true := bne_iff_ne.mpr c87
          by_cases c99 : x362001_3.length < 5864062014805
          rotate_left
          ·rw [if_neg c99] at H
           exact absurd H (by simp)
          rw [if_pos c99] at H
          have LMc99 := am_ c99
          clear c99
          obtain ⟨y388, hy388⟩ : ∃ y_ : List (S59), y_ = (x362001_3 ++ [(⟨(rd_T59 l0_1 x12_3).f0, (rd_T59 l0_1 x12_3).f1⟩ : S59)]) := ⟨_, rfl⟩
          replace H : (cantonref11_Cut.l1 k3 l1 a2 (wrap64 (x12_3 + 1)) l0_0 l0_1 x361000_2 x361001_3 x362000_2 y388) = some (r1, r2, r3, r4) := by first | (rw [hy388]; with_reducible exact H) | (have H2_ := (Option.bind_some _ _).symm.trans H; rw [hy388]; with_reducible exact H2_) | (have H2_ := (Option.bind_some _ _).symm.trans H; with_reducible exact H2_) | with_reducible exact H | (rw [hy388]; exact H) | exact H
          have Ny388 := am_ hy388
          clear hy388
          have H' := am_ H
          clear H
          have hnb100 := NB357_358.out
          have hnc100 := NB358_357.out
          have hnb101 := NB357_359.out
          have hnc101 := NB359_357.out
          have hnb102 := NB357_360.out
          have hnc102 := NB360_357.out
          have hnb103 := NB357_361.out
          have hnc103 := NB361_357.out
          have hcz104_0 : wr.cell? ⟨gb357, 0, none⟩ = some (.slice A0_0 l0_0.length c0_0) := (blk_cell BK357.out 0).trans rfl
          have hcz104_1 : wr.cell? ⟨gb357, 1, none⟩ = some (.slice A0_1 l0_1.length c0_1) := (blk_cell BK357.out 1).trans rfl
          have hfz104_0 := blk_frozen BK357.out 0
          have hfz104_1 := blk_frozen BK357.out 1
          have p380 : 0 ≤ (x12_3 : Int) := od_
          have q380 : x12_3 < (l0_1.length : Int) := od_
          obtain ⟨ad380, e380, hx380_0, hx380_1⟩ := at_T59 HR0_1.out x12_3 p380 q380
          cases e380
          replace hx380_0 := pw_cell_below HB.out hx380_0
          replace hx380_1 := pw_cell_below HB.out hx380_1
          replace p380 := eq_true p380
          replace q380 := eq_true q380
          try go_wp2_with (first | ((with_reducible refine gate_callee (f := 20) rfl ?_); refine gL (some 85) Try.func20 #[.slice A1 l1.length c1, .string ((rd_T59 l0_1 x12_3).f0)] rfl rfl ?_; (with_reducible refine (cantonref11_Of.calls k3 _ _ l1 ((rd_T59 l0_1 x12_3).f0) t381 _ ?side1 ?side2 A83.out).mono ?_); (case side1 => exact kC ((Kd.C_below HR1.out HB.out))); (case side2 => exact HC1.out); rintro e w105 ⟨rfl, hb⟩; refine ⟨_, rfl, ?_⟩; have n0_ := am_ (Kd.R_below (kR HO_361000) hb); have n1_ := am_ (Kd.R_below (kR HO_361001) hb); have n2_ := am_ (Kd.R_below (kR HO_362000) hb); have n3_ := am_ (Kd.R_below (kR HO_362001) hb); have n4_ := am_ (blk_below (kB BK357) hb); have n5_ := am_ (blk_below (kB BK358) hb); have n6_ := am_ (blk_below (kB BK359) hb); have n7_ := am_ (blk_below (kB BK360) hb); have n8_ := am_ (blk_below (kB BK361) hb); have n9_ := am_ (below_step (kZ HB) hb); clear HO_361000; clear HO_361001; clear HO_362000; clear HO_362001; clear BK357; clear BK358; clear BK359; clear BK360; clear BK361; clear HB; have HO_361000 := n0_; have HO_361001 := n1_; have HO_362000 := n2_; have HO_362001 := n3_; have BK357 := n4_; have BK358 := n5_; have BK359 := n6_; have BK360 := n7_; have BK361 := n8_; have HB := n9_; clear n0_ n1_ n2_ n3_ n4_ n5_ n6_ n7_ n8_ n9_; (try clear hb); (try clear hb2); (try clear hk); (try clear hi); have p382 : 0 ≤ (t381 : Int) := od_; have q382 : t381 < (l1.length : Int) := od_; obtain ⟨ad382, e382, hx382_0, hx382_1, hx382_2⟩ := at_T45 HR1.out t381 p382 q382; cases e382; replace hx382_0 := pw_cell_below HB.out hx382_0; replace hx382_1 := pw_cell_below HB.out hx382_1; replace hx382_2 := pw_cell_below HB.out hx382_2; replace p382 := eq_true p382; replace q382 := eq_true q382))
          have n0_ := am_ (Kd.R_drew HO_361000.out)
          have n1_ := am_ (Kd.R_drew HO_361001.out)
          have n2_ := am_ (Kd.R_drew HO_362000.out)
          have n3_ := am_ (Kd.R_drew HO_362001.out)
          have n4_ := am_ (blk_drew BK357.out)
          have n5_ := am_ (blk_drew BK358.out)
          have n6_ := am_ (blk_drew BK359.out)
          have n7_ := am_ (blk_drew BK360.out)
          have n8_ := am_ (blk_drew BK361.out)
          have n9_ := am_ (below_drew1 HB.out)
          clear HO_361000
          clear HO_361001
          clear HO_362000
          clear HO_362001
          clear BK357
          clear BK358
          clear BK359
          clear BK360
          clear BK361
          clear HB
          have HO_361000 := n0_
          have HO_361001 := n1_
          have HO_362000 := n2_
          have HO_362001 := n3_
          have BK357 := n4_
          have BK358 := n5_
          have BK359 := n6_
          have BK360 := n7_
          have BK361 := n8_
          have HB := n9_
          clear n0_ n1_ n2_ n3_ n4_ n5_ n6_ n7_ n8_ n9_
          have p387 : 0 ≤ (x12_3 : Int) := od_
          have q387 : x12_3 < (l0_1.length : Int) := od_
          obtain ⟨ad387, e387, hx387_0, hx387_1⟩ := at_T59 HR0_1.out x12_3 p387 q387
          have hw387_1 := hx387_1
          have hw387_0 := hx387_0
          obtain rfl : ad380 = ad387 := (by injection e387)
          replace hx387_0 := pw_cell_below HB.out hx387_0
          replace hx387_1 := pw_cell_below HB.out hx387_1
          replace p387 := eq_true p387
          replace q387 := eq_true q387
          refine start_ (n := 11) (S := fun w' => w'.cell? ⟨gb361, 0, none⟩ = some (u362000) ∧ w'.cell? ⟨gb361, 1, none⟩ = some (u362001) ∧ w'.cell? ⟨gb357, 0, none⟩ = some (.slice A0_0 l0_0.length c0_0) ∧ w'.cell? ⟨gb357, 1, none⟩ = some (.slice (some ad380) l0_1.length c0_1) ∧ w'.cell? (ad380.add ((x12_3).toNat * 2)) = some (.string ((rd_T59 l0_1 x12_3).f0)) ∧ w'.cell? ⟨(ad380.add ((x12_3).toNat * 2)).block, (ad380.add ((x12_3).toNat * 2)).off + 1, none⟩ = some (.int .i64 ((rd_T59 l0_1 x12_3).f1))) (ds := [10]) x18tr11_0 (by kernel_rfl) rfl rfl ⟨(blk_cell BK361.out 0).trans rfl, (blk_cell BK361.out 1).trans rfl, (blk_cell BK357.out 0).trans rfl, (blk_cell BK357.out 1).trans rfl, (pw_cell_below HB.out hw387_0), (pw_cell_below HB.out hw387_1)⟩ (fun hHeld => ?_); refine with_tabW cantonref11_Cut.tab18 cantonref11_Cut.bits18 (fun HT_ HW_ => ?_)
          generalize w105.drew = w106 at HO_361000 HO_361001 HO_362000 HO_362001 BK357 BK358 BK359 BK360 BK361 HB hx387_0 hx387_1 hHeld ⊢
          refine pA_ 0 107 x18tr11_1 HT_.out ?_
          refine pA_ 2 109 x18tr11_m10100000000 HT_.out ?_
          refine pA_ 4 111 x18tr11_m10101000000 HT_.out ?_
          refine tA_ 1 108 x18tr11_m11101000000 HT_.out HW_.out hHeld ?_
          refine tA_ 3 110 x18tr11_5 HT_.out HW_.out hHeld ?_
          refine pA_ 5 112 x18tr11_6 HT_.out ?_
          refine tA_ 6 113 x18tr11_7 HT_.out HW_.out hHeld ?_
          refine one_ (i := 7) (N := some 114) x18tr11_8 rfl rfl (one_of HT_.out (by kernel_rfl)) (by decide) (fun K hK => ?_)
          refine value_ (w1 := ?_) (v := ?_) (by rfl) rfl ?_ ?_
          rotate_left 2
          ·go_simp
           constructor
           ·rfl
           ·rfl
          refine hK.out _ _ ⟨(blk_cell (blk_alloc BK361.out _) 0).trans rfl, (blk_cell (blk_alloc BK361.out _) 1).trans rfl, (blk_cell (blk_alloc BK357.out _) 0).trans rfl, (blk_cell (blk_alloc BK357.out _) 1).trans rfl, (World.cell?_alloc_lt _ _ _ (World.block_lt_of_cell? _ _ ((pw_cell_below HB.out hw387_0)))).trans ((pw_cell_below HB.out hw387_0)), (World.cell?_alloc_lt _ _ _ (World.block_lt_of_cell? _ _ ((pw_cell_below HB.out hw387_1)))).trans ((pw_cell_below HB.out hw387_1))⟩ (fun hHeld => ?_)
          clear hK K
          refine norm_ (a' := ?_) ?_ ?_
          rotate_left
          ·show Act.put _ (some 114) _ = _
           simp only [Act.put, List.setIfInBounds_toArray, List.set_cons_zero, List.set_cons_succ, i64_w, i32_w]
           rfl
          refine one_ (i := 8) (N := some 115) x18tr11_9 rfl rfl (one_of HT_.out (by kernel_rfl)) (by decide) (fun K hK => ?_)
          refine Kd.R_append_step k59 (w0 := w) w.heap.size (by rfl) (.tmp 108) (.tmp 114) 32 59 (.agg #[(.string ⟨#[]⟩), (.int .i64 0)]) 24 rfl Try.underlying32 info59 rfl (by decide) (by omega) u362001 x362001_3 (⟨(rd_T59 l0_1 x12_3).f0, (rd_T59 l0_1 x12_3).f1⟩ : S59) [.string ((rd_T59 l0_1 x12_3).f0), .int .i64 ((rd_T59 l0_1 x12_3).f1)] (fun k_ => some k_ ≠ (u361001 : Value).ownBlock) (fun _ => False) rfl rfl ?aP (fun _ hk => hk.elim) ?aF ?aO ?aB ?aS ?aL ?_
          (case aP => exact k59_mkM _ _ _ (⟨(rd_T59 l0_1 x12_3).f0, (rd_T59 l0_1 x12_3).f1⟩ : S59))
          (case aB => exact (kZ HB))
          (case aF => exact (fun k_ hk => Kd.fresh' (Kd.R_lt (kR HO_361001)) k_ hk))
          (case aO => exact (kR HO_362001))
          (case aS => exact (below_size (kZ HB)))
          (case aL => have := LMc99.out; omega)
          intro v389 w107 ho hb hg hat
          rw [← Ny388.out] at ho
          have n0_ := am_ (Kd.R_over' (kR HO_361000) (Kd.R_typed (kR HO_362001)) (by decide) hg)
          have n1_ := am_ (Kd.R_after (ok := (fun _ => True)) (by refine kE ?_; exact Kd.R_mono HO_361001.out (fun _ hk => ⟨trivial, hk⟩)) hg hat)
          have n2_ := am_ (Kd.R_over' (kR HO_362000) (Kd.R_typed (kR HO_362001)) (by decide) hg)
          have n3_ := am_ (blk_grown (kB BK357) hg (Kd.R_ne HO_362001.out BK357.out (by decide)))
          have n4_ := am_ (blk_grown (kB BK358) hg (Kd.R_ne HO_362001.out BK358.out (by decide)))
          have n5_ := am_ (blk_grown (kB BK359) hg (Kd.R_ne HO_362001.out BK359.out (by decide)))
          have n6_ := am_ (blk_grown (kB BK360) hg (Kd.R_ne HO_362001.out BK360.out (by decide)))
          have n7_ := am_ (blk_grown (kB BK361) hg (Kd.R_ne HO_362001.out BK361.out (by decide)))
          have n8_ := am_ (hb)
          have n9_ := am_ (ho)
          clear HO_361000
          clear HO_361001
          clear HO_362000
          clear BK357
          clear BK358
          clear BK359
          clear BK360
          clear BK361
          clear HB
          clear HO_362001
          have HO_361000 := n0_
          have HO_361001 := n1_
          have HO_362000 := n2_
          have BK357 := n3_
          have BK358 := n4_
          have BK359 := n5_
          have BK360 := n6_
          have BK361 := n7_
          have HB := n8_
          have HO390 := n9_
          clear n0_ n1_ n2_ n3_ n4_ n5_ n6_ n7_ n8_ n9_
          clear ho hb hg hat
          obtain ⟨Ao108, co108, eo108⟩ := Kd.R_slice HO390.out
          (first | subst eo108 | (injection eo108 with f1_ f2_ f3_; have f4_ := f1_.symm; have f5_ := f3_.symm; clear f1_ f2_ f3_; subst f4_; subst f5_))
          refine hK.out _ _ ⟨(blk_cell BK361.out 0).trans rfl, (blk_cell BK361.out 1).trans rfl, (blk_cell BK357.out 0).trans rfl, (blk_cell BK357.out 1).trans rfl, (pw_cell_below HB.out hw387_0), (pw_cell_below HB.out hw387_1)⟩ (fun hHeld => ?_)
          clear hK K
          refine norm_ (a' := ?_) ?_ ?_
          rotate_left
          ·show Act.put _ (some 115) _ = _
           simp only [Act.put, List.setIfInBounds_toArray, List.set_cons_zero, List.set_cons_succ, i64_w, i32_w]
           rfl
          refine pA_ 9 116 x18tr11_10 HT_.out ?_
          refine last_ (i := 10) (N := none) x18tr11_11 rfl rfl (one_of HT_.out (by kernel_rfl)) (by decide) (fun K hK => ?_)
          have hs109 : w107.cell? ⟨gb361, 1, none⟩ = some (u362001) := (blk_cell BK361.out 1).trans rfl
          have hfs109 := blk_frozen BK361.out 1
          have hns109_0 := NB357_361.out
          have hns109_1 := NB358_361.out
          have hns109_2 := NB359_361.out
          have hns109_3 := NB360_361.out
          have hms109_0 := NB361_357.out
          have hms109_1 := NB361_358.out
          have hms109_2 := NB361_359.out
          have hms109_3 := NB361_360.out
          refine skip_ (w1 := ?_) (by rfl) rfl ?_ ?_
          rotate_left
          ·go_simp
           rfl
          refine hK.out _ _ ?_
          clear hK K
          refine done_ (done_of HT_.out (by kernel_rfl)) ?_
          try go_wp2
          go_roundg k3
          case measure => have := HJ3.out; have := HK2.out; have := HK3.out; omega
          case rel => exact ⟨(wrap64 (x12_3 + 1)), (x361001_3), (y388), (u361001), (.slice Ao108 y388.length co108), e1_, H', ⟨by have := HJ3.out; have := HK2.out; have := HK3.out; omega⟩, ⟨by refine kE ?_; exact Kd.R_mono (Kd.R_far (p := ⟨gb361, 1, none⟩) (Kd.R_types HO_361000.out BK361.out (by decide)) (fun _ hk => hk.2) (.slice Ao108 y388.length co108)) (fun _ hk => hk.1)⟩, ⟨by refine kE ?_; exact Kd.R_mono (Kd.R_far (p := ⟨gb361, 1, none⟩) (Kd.R_types HO_361001.out BK361.out (by decide)) (fun _ hk => hk.2) (.slice Ao108 y388.length co108)) (fun _ hk => hk.1.2)⟩, ⟨by refine kE ?_; exact Kd.R_mono (Kd.R_far (p := ⟨gb361, 1, none⟩) (Kd.R_types HO_362000.out BK361.out (by decide)) (fun _ hk => hk.2) (.slice Ao108 y388.length co108)) (fun _ hk => hk.1)⟩, ⟨by refine kE ?_; exact Kd.R_mono (Kd.R_far (p := ⟨gb361, 1, none⟩) (Kd.R_types HO390.out BK361.out (by decide)) (fun _ hk => hk.2) (.slice Ao108 y388.length co108)) (fun _ hk => hk.1)⟩, ⟨by refine kD ?_; refine blk_far ?_ NB357_361.out _; refine kD ?_; exact BK357.out⟩, ⟨by refine kD ?_; refine blk_far ?_ NB358_361.out _; refine kD ?_; exact BK358.out⟩, ⟨by refine kD ?_; refine blk_far ?_ NB359_361.out _; refine kD ?_; exact BK359.out⟩, ⟨by refine kD ?_; refine blk_far ?_ NB360_361.out _; refine kD ?_; exact BK360.out⟩, ⟨by refine kD ?_; refine blk_put (cs := #[u362000, u362001]) ?_ 1 _ rfl; refine kD ?_; exact BK361.out⟩, ⟨kZ HB⟩⟩
         rw [if_pos c87] at H
         have c87b0 : (((rd_T45 l1 t381).f0).toList == a2.toList) = true := beq_iff_eq.mpr c87
         have c87b1 : (((rd_T45 l1 t381).f0).toList != a2.toList) = false := bne_eq_false_iff_eq.mpr c87
         clear c87
         by_cases c88 : x361001_3.length < 5864062014805
         rotate_left
         ·rw [if_neg c88] at H
          exact absurd H (by simp)
         rw [if_pos c88] at H
         have LMc88 := am_ c88
         clear c88
         obtain ⟨y384, hy384⟩ : ∃ y_ : List (S59), y_ = (x361001_3 ++ [(⟨(rd_T59 l0_1 x12_3).f0, (rd_T59 l0_1 x12_3).f1⟩ : S59)]) := ⟨_, rfl⟩
         replace H : (cantonref11_Cut.l1 k3 l1 a2 (wrap64 (x12_3 + 1)) l0_0 l0_1 x361000_2 y384 x362000_2 x362001_3) = some (r1, r2, r3, r4) := by first | (rw [hy384]; with_reducible exact H) | (have H2_ := (Option.bind_some _ _).symm.trans H; rw [hy384]; with_reducible exact H2_) | (have H2_ := (Option.bind_some _ _).symm.trans H; with_reducible exact H2_) | with_reducible exact H | (rw [hy384]; exact H) | exact H
         have Ny384 := am_ hy384
         clear hy384
         have H' := am_ H
         clear H
         have hnb89 := NB357_358.out
         have hnc89 := NB358_357.out
         have hnb90 := NB357_359.out
         have hnc90 := NB359_357.out
         have hnb91 := NB357_360.out
         have hnc91 := NB360_357.out
         have hnb92 := NB357_361.out
         have hnc92 := NB361_357.out
         have hcz93_0 : wr.cell? ⟨gb357, 0, none⟩ = some (.slice A0_0 l0_0.length c0_0) := (blk_cell BK357.out 0).trans rfl
         have hcz93_1 : wr.cell? ⟨gb357, 1, none⟩ = some (.slice A0_1 l0_1.length c0_1) := (blk_cell BK357.out 1).trans rfl
         have hfz93_0 := blk_frozen BK357.out 0
         have hfz93_1 := blk_frozen BK357.out 1
         have p380 : 0 ≤ (x12_3 : Int) := od_
         have q380 : x12_3 < (l0_1.length : Int) := od_
         obtain ⟨ad380, e380, hx380_0, hx380_1⟩ := at_T59 HR0_1.out x12_3 p380 q380
         cases e380
         replace hx380_0 := pw_cell_below HB.out hx380_0
         replace hx380_1 := pw_cell_below HB.out hx380_1
         replace p380 := eq_true p380
         replace q380 := eq_true q380
         try go_wp2_with (first | ((with_reducible refine gate_callee (f := 20) rfl ?_); refine gL (some 85) Try.func20 #[.slice A1 l1.length c1, .string ((rd_T59 l0_1 x12_3).f0)] rfl rfl ?_; (with_reducible refine (cantonref11_Of.calls k3 _ _ l1 ((rd_T59 l0_1 x12_3).f0) t381 _ ?side1 ?side2 A83.out).mono ?_); (case side1 => exact kC ((Kd.C_below HR1.out HB.out))); (case side2 => exact HC1.out); rintro e w94 ⟨rfl, hb⟩; refine ⟨_, rfl, ?_⟩; have n0_ := am_ (Kd.R_below (kR HO_361000) hb); have n1_ := am_ (Kd.R_below (kR HO_361001) hb); have n2_ := am_ (Kd.R_below (kR HO_362000) hb); have n3_ := am_ (Kd.R_below (kR HO_362001) hb); have n4_ := am_ (blk_below (kB BK357) hb); have n5_ := am_ (blk_below (kB BK358) hb); have n6_ := am_ (blk_below (kB BK359) hb); have n7_ := am_ (blk_below (kB BK360) hb); have n8_ := am_ (blk_below (kB BK361) hb); have n9_ := am_ (below_step (kZ HB) hb); clear HO_361000; clear HO_361001; clear HO_362000; clear HO_362001; clear BK357; clear BK358; clear BK359; clear BK360; clear BK361; clear HB; have HO_361000 := n0_; have HO_361001 := n1_; have HO_362000 := n2_; have HO_362001 := n3_; have BK357 := n4_; have BK358 := n5_; have BK359 := n6_; have BK360 := n7_; have BK361 := n8_; have HB := n9_; clear n0_ n1_ n2_ n3_ n4_ n5_ n6_ n7_ n8_ n9_; (try clear hb); (try clear hb2); (try clear hk); (try clear hi); have p382 : 0 ≤ (t381 : Int) := od_; have q382 : t381 < (l1.length : Int) := od_; obtain ⟨ad382, e382, hx382_0, hx382_1, hx382_2⟩ := at_T45 HR1.out t381 p382 q382; cases e382; replace hx382_0 := pw_cell_below HB.out hx382_0; replace hx382_1 := pw_cell_below HB.out hx382_1; replace hx382_2 := pw_cell_below HB.out hx382_2; replace p382 := eq_true p382; replace q382 := eq_true q382))
         have n0_ := am_ (Kd.R_drew HO_361000.out)
         have n1_ := am_ (Kd.R_drew HO_361001.out)
         have n2_ := am_ (Kd.R_drew HO_362000.out)
         have n3_ := am_ (Kd.R_drew HO_362001.out)
         have n4_ := am_ (blk_drew BK357.out)
         have n5_ := am_ (blk_drew BK358.out)
         have n6_ := am_ (blk_drew BK359.out)
         have n7_ := am_ (blk_drew BK360.out)
         have n8_ := am_ (blk_drew BK361.out)
         have n9_ := am_ (below_drew1 HB.out)
         clear HO_361000
         clear HO_361001
         clear HO_362000
         clear HO_362001
         clear BK357
         clear BK358
         clear BK359
         clear BK360
         clear BK361
         clear HB
         have HO_361000 := n0_
         have HO_361001 := n1_
         have HO_362000 := n2_
         have HO_362001 := n3_
         have BK357 := n4_
         have BK358 := n5_
         have BK359 := n6_
         have BK360 := n7_
         have BK361 := n8_
         have HB := n9_
         clear n0_ n1_ n2_ n3_ n4_ n5_ n6_ n7_ n8_ n9_
         have p383 : 0 ≤ (x12_3 : Int) := od_
         have q383 : x12_3 < (l0_1.length : Int) := od_
         obtain ⟨ad383, e383, hx383_0, hx383_1⟩ := at_T59 HR0_1.out x12_3 p383 q383
         have hw383_1 := hx383_1
         have hw383_0 := hx383_0
         obtain rfl : ad380 = ad383 := (by injection e383)
         replace hx383_0 := pw_cell_below HB.out hx383_0
         replace hx383_1 := pw_cell_below HB.out hx383_1
         replace p383 := eq_true p383
         replace q383 := eq_true q383
         refine start_ (n := 11) (S := fun w' => w'.cell? ⟨gb360, 0, none⟩ = some (u361000) ∧ w'.cell? ⟨gb360, 1, none⟩ = some (u361001) ∧ w'.cell? ⟨gb357, 0, none⟩ = some (.slice A0_0 l0_0.length c0_0) ∧ w'.cell? ⟨gb357, 1, none⟩ = some (.slice (some ad380) l0_1.length c0_1) ∧ w'.cell? (ad380.add ((x12_3).toNat * 2)) = some (.string ((rd_T59 l0_1 x12_3).f0)) ∧ w'.cell? ⟨(ad380.add ((x12_3).toNat * 2)).block, (ad380.add ((x12_3).toNat * 2)).off + 1, none⟩ = some (.int .i64 ((rd_T59 l0_1 x12_3).f1))) (ds := [10]) x18tr11_0 (by kernel_rfl) rfl rfl ⟨(blk_cell BK360.out 0).trans rfl, (blk_cell BK360.out 1).trans rfl, (blk_cell BK357.out 0).trans rfl, (blk_cell BK357.out 1).trans rfl, (pw_cell_below HB.out hw383_0), (pw_cell_below HB.out hw383_1)⟩ (fun hHeld => ?_); refine with_tabW cantonref11_Cut.tab17 cantonref11_Cut.bits17 (fun HT_ HW_ => ?_)
         generalize w94.drew = w95 at HO_361000 HO_361001 HO_362000 HO_362001 BK357 BK358 BK359 BK360 BK361 HB hx383_0 hx383_1 hHeld ⊢
         refine pA_ 0 97 x18tr11_1 HT_.out ?_
         refine pA_ 2 99 x18tr11_m10100000000 HT_.out ?_
         refine pA_ 4 101 x18tr11_m10101000000 HT_.out ?_
         refine tA_ 1 98 x18tr11_m11101000000 HT_.out HW_.out hHeld ?_
         refine tA_ 3 100 x18tr11_5 HT_.out HW_.out hHeld ?_
         refine pA_ 5 102 x18tr11_6 HT_.out ?_
         refine tA_ 6 103 x18tr11_7 HT_.out HW_.out hHeld ?_
         refine one_ (i := 7) (N := some 104) x18tr11_8 rfl rfl (one_of HT_.out (by kernel_rfl)) (by decide) (fun K hK => ?_)
         refine value_ (w1 := ?_) (v := ?_) (by rfl) rfl ?_ ?_
         rotate_left 2
         ·go_simp
          constructor
          ·rfl
          ·rfl
         refine hK.out _ _ ⟨(blk_cell (blk_alloc BK360.out _) 0).trans rfl, (blk_cell (blk_alloc BK360.out _) 1).trans rfl, (blk_cell (blk_alloc BK357.out _) 0).trans rfl, (blk_cell (blk_alloc BK357.out _) 1).trans rfl, (World.cell?_alloc_lt _ _ _ (World.block_lt_of_cell? _ _ ((pw_cell_below HB.out hw383_0)))).trans ((pw_cell_below HB.out hw383_0)), (World.cell?_alloc_lt _ _ _ (World.block_lt_of_cell? _ _ ((pw_cell_below HB.out hw383_1)))).trans ((pw_cell_below HB.out hw383_1))⟩ (fun hHeld => ?_)
         clear hK K
         refine norm_ (a' := ?_) ?_ ?_
         rotate_left
         ·show Act.put _ (some 104) _ = _
          simp only [Act.put, List.setIfInBounds_toArray, List.set_cons_zero, List.set_cons_succ, i64_w, i32_w]
          rfl
         refine one_ (i := 8) (N := some 105) x18tr11_9 rfl rfl (one_of HT_.out (by kernel_rfl)) (by decide) (fun K hK => ?_)
         refine Kd.R_append_step k59 (w0 := w) w.heap.size (by rfl) (.tmp 98) (.tmp 104) 32 59 (.agg #[(.string ⟨#[]⟩), (.int .i64 0)]) 24 rfl Try.underlying32 info59 rfl (by decide) (by omega) u361001 x361001_3 (⟨(rd_T59 l0_1 x12_3).f0, (rd_T59 l0_1 x12_3).f1⟩ : S59) [.string ((rd_T59 l0_1 x12_3).f0), .int .i64 ((rd_T59 l0_1 x12_3).f1)] (fun k_ => some k_ ≠ (u362001 : Value).ownBlock) (fun _ => False) rfl rfl ?aP (fun _ hk => hk.elim) ?aF ?aO ?aB ?aS ?aL ?_
         (case aP => exact k59_mkM _ _ _ (⟨(rd_T59 l0_1 x12_3).f0, (rd_T59 l0_1 x12_3).f1⟩ : S59))
         (case aB => exact (kZ HB))
         (case aF => exact (fun k_ hk => Kd.fresh' (Kd.R_lt (kR HO_362001)) k_ hk))
         (case aO => exact (kR HO_361001))
         (case aS => exact (below_size (kZ HB)))
         (case aL => have := LMc88.out; omega)
         intro v385 w96 ho hb hg hat
         rw [← Ny384.out] at ho
         have n0_ := am_ (Kd.R_over' (kR HO_361000) (Kd.R_typed (kR HO_361001)) (by decide) hg)
         have n1_ := am_ (Kd.R_over' (kR HO_362000) (Kd.R_typed (kR HO_361001)) (by decide) hg)
         have n2_ := am_ (Kd.R_after (ok := (fun _ => True)) (by refine kE ?_; exact Kd.R_mono HO_362001.out (fun _ hk => ⟨trivial, hk⟩)) hg hat)
         have n3_ := am_ (blk_grown (kB BK357) hg (Kd.R_ne HO_361001.out BK357.out (by decide)))
         have n4_ := am_ (blk_grown (kB BK358) hg (Kd.R_ne HO_361001.out BK358.out (by decide)))
         have n5_ := am_ (blk_grown (kB BK359) hg (Kd.R_ne HO_361001.out BK359.out (by decide)))
         have n6_ := am_ (blk_grown (kB BK360) hg (Kd.R_ne HO_361001.out BK360.out (by decide)))
         have n7_ := am_ (blk_grown (kB BK361) hg (Kd.R_ne HO_361001.out BK361.out (by decide)))
         have n8_ := am_ (hb)
         have n9_ := am_ (ho)
         clear HO_361000
         clear HO_362000
         clear HO_362001
         clear BK357
         clear BK358
         clear BK359
         clear BK360
         clear BK361
         clear HB
         clear HO_361001
         have HO_361000 := n0_
         have HO_362000 := n1_
         have HO_362001 := n2_
         have BK357 := n3_
         have BK358 := n4_
         have BK359 := n5_
         have BK360 := n6_
         have BK361 := n7_
         have HB := n8_
         have HO386 := n9_
         clear n0_ n1_ n2_ n3_ n4_ n5_ n6_ n7_ n8_ n9_
         clear ho hb hg hat
         obtain ⟨Ao97, co97, eo97⟩ := Kd.R_slice HO386.out
         (first | subst eo97 | (injection eo97 with f1_ f2_ f3_; have f4_ := f1_.symm; have f5_ := f3_.symm; clear f1_ f2_ f3_; subst f4_; subst f5_))
         refine hK.out _ _ ⟨(blk_cell BK360.out 0).trans rfl, (blk_cell BK360.out 1).trans rfl, (blk_cell BK357.out 0).trans rfl, (blk_cell BK357.out 1).trans rfl, (pw_cell_below HB.out hw383_0), (pw_cell_below HB.out hw383_1)⟩ (fun hHeld => ?_)
         clear hK K
         refine norm_ (a' := ?_) ?_ ?_
         rotate_left
         ·show Act.put _ (some 105) _ = _
          simp only [Act.put, List.setIfInBounds_toArray, List.set_cons_zero, List.set_cons_succ, i64_w, i32_w]
          rfl
         refine pA_ 9 106 x18tr11_10 HT_.out ?_
         refine last_ (i := 10) (N := none) x18tr11_11 rfl rfl (one_of HT_.out (by kernel_rfl)) (by decide) (fun K hK => ?_)
         have hs98 : w96.cell? ⟨gb360, 1, none⟩ = some (u361001) := (blk_cell BK360.out 1).trans rfl
         have hfs98 := blk_frozen BK360.out 1
         have hns98_0 := NB357_360.out
         have hns98_1 := NB358_360.out
         have hns98_2 := NB359_360.out
         have hns98_4 := NB361_360.out
         have hms98_0 := NB360_357.out
         have hms98_1 := NB360_358.out
         have hms98_2 := NB360_359.out
         have hms98_4 := NB360_361.out
         refine skip_ (w1 := ?_) (by rfl) rfl ?_ ?_
         rotate_left
         ·go_simp
          rfl
         refine hK.out _ _ ?_
         clear hK K
         refine done_ (done_of HT_.out (by kernel_rfl)) ?_
         try go_wp2
         go_roundg k3
         case measure => have := HJ3.out; have := HK2.out; have := HK3.out; omega
         case rel => exact ⟨(wrap64 (x12_3 + 1)), (y384), (x362001_3), (.slice Ao97 y384.length co97), (u362001), e1_, H', ⟨by have := HJ3.out; have := HK2.out; have := HK3.out; omega⟩, ⟨by refine kE ?_; exact Kd.R_mono (Kd.R_far (p := ⟨gb360, 1, none⟩) (Kd.R_types HO_361000.out BK360.out (by decide)) (fun _ hk => hk.2) (.slice Ao97 y384.length co97)) (fun _ hk => hk.1)⟩, ⟨by refine kE ?_; exact Kd.R_mono (Kd.R_far (p := ⟨gb360, 1, none⟩) (Kd.R_types HO386.out BK360.out (by decide)) (fun _ hk => hk.2) (.slice Ao97 y384.length co97)) (fun _ hk => hk.1)⟩, ⟨by refine kE ?_; exact Kd.R_mono (Kd.R_far (p := ⟨gb360, 1, none⟩) (Kd.R_types HO_362000.out BK360.out (by decide)) (fun _ hk => hk.2) (.slice Ao97 y384.length co97)) (fun _ hk => hk.1)⟩, ⟨by refine kE ?_; exact Kd.R_mono (Kd.R_far (p := ⟨gb360, 1, none⟩) (Kd.R_types HO_362001.out BK360.out (by decide)) (fun _ hk => hk.2) (.slice Ao97 y384.length co97)) (fun _ hk => hk.1.2)⟩, ⟨by refine kD ?_; refine blk_far ?_ NB357_360.out _; refine kD ?_; exact BK357.out⟩, ⟨by refine kD ?_; refine blk_far ?_ NB358_360.out _; refine kD ?_; exact BK358.out⟩, ⟨by refine kD ?_; refine blk_far ?_ NB359_360.out _; refine kD ?_; exact BK359.out⟩, ⟨by refine kD ?_; refine blk_put (cs := #[u361000, u361001]) ?_ 1 _ rfl; refine kD ?_; exact BK360.out⟩, ⟨by refine kD ?_; refine blk_far ?_ NB361_360.out _; refine kD ?_; exact BK361.out⟩, ⟨kZ HB⟩⟩
      rw [if_pos c32] at H
      have c32b0 : decide (x10_2 < (l0_0.length : Int)) = true := decide_eq_true c32
      clear c32
      by_cases c33 : 0 ≤ x10_2
      rotate_left
      ·rw [if_neg c33] at H
       exact absurd H (by simp)
      rw [if_pos c33] at H
      have c33b0 : decide (0 ≤ x10_2) = true := decide_eq_true c33
      clear c33
      replace H := Option.bind_eq_some_iff.mp H
      obtain ⟨t365, A340, H⟩ := H
      replace H : ((cantonref11_Of.f k2 l1 t365).bind fun t366 => (if t366 ≥ 0 then (if 0 ≤ t366 then (if t366 < (l1.length : Int) then (if ((rd_T45 l1 t366).f0).toList = a2.toList then (if x361000_2.length < 2513169434916 then (cantonref11_Cut.l0 k2 l1 a2 (wrap64 (x10_2 + 1)) l0_0 l0_1 (x361000_2 ++ [(⟨(rd_T40 l0_0 x10_2).f0, (rd_T40 l0_0 x10_2).f1, (rd_T40 l0_0 x10_2).f2, (rd_T40 l0_0 x10_2).f3, (rd_T40 l0_0 x10_2).f4⟩ : S40)]) x362000_2) else (none)) else (if x362000_2.length < 2513169434916 then (cantonref11_Cut.l0 k2 l1 a2 (wrap64 (x10_2 + 1)) l0_0 l0_1 x361000_2 (x362000_2 ++ [(⟨(rd_T40 l0_0 x10_2).f0, (rd_T40 l0_0 x10_2).f1, (rd_T40 l0_0 x10_2).f2, (rd_T40 l0_0 x10_2).f3, (rd_T40 l0_0 x10_2).f4⟩ : S40)])) else (none))) else (none)) else (none)) else (if x362000_2.length < 2513169434916 then (cantonref11_Cut.l0 k2 l1 a2 (wrap64 (x10_2 + 1)) l0_0 l0_1 x361000_2 (x362000_2 ++ [(⟨(rd_T40 l0_0 x10_2).f0, (rd_T40 l0_0 x10_2).f1, (rd_T40 l0_0 x10_2).f2, (rd_T40 l0_0 x10_2).f3, (rd_T40 l0_0 x10_2).f4⟩ : S40)])) else (none)))) = some (r1, r2, r3, r4) := H
      have A34 := am_ A340
      clear A340
      replace H := Option.bind_eq_some_iff.mp H
      obtain ⟨t366, A350, H⟩ := H
      replace H : (if t366 ≥ 0 then (if 0 ≤ t366 then (if t366 < (l1.length : Int) then (if ((rd_T45 l1 t366).f0).toList = a2.toList then (if x361000_2.length < 2513169434916 then (cantonref11_Cut.l0 k2 l1 a2 (wrap64 (x10_2 + 1)) l0_0 l0_1 (x361000_2 ++ [(⟨(rd_T40 l0_0 x10_2).f0, (rd_T40 l0_0 x10_2).f1, (rd_T40 l0_0 x10_2).f2, (rd_T40 l0_0 x10_2).f3, (rd_T40 l0_0 x10_2).f4⟩ : S40)]) x362000_2) else (none)) else (if x362000_2.length < 2513169434916 then (cantonref11_Cut.l0 k2 l1 a2 (wrap64 (x10_2 + 1)) l0_0 l0_1 x361000_2 (x362000_2 ++ [(⟨(rd_T40 l0_0 x10_2).f0, (rd_T40 l0_0 x10_2).f1, (rd_T40 l0_0 x10_2).f2, (rd_T40 l0_0 x10_2).f3, (rd_T40 l0_0 x10_2).f4⟩ : S40)])) else (none))) else (none)) else (none)) else (if x362000_2.length < 2513169434916 then (cantonref11_Cut.l0 k2 l1 a2 (wrap64 (x10_2 + 1)) l0_0 l0_1 x361000_2 (x362000_2 ++ [(⟨(rd_T40 l0_0 x10_2).f0, (rd_T40 l0_0 x10_2).f1, (rd_T40 l0_0 x10_2).f2, (rd_T40 l0_0 x10_2).f3, (rd_T40 l0_0 x10_2).f4⟩ : S40)])) else (none))) = some (r1, r2, r3, r4) := H
      have A35 := am_ A350
      clear A350
      by_cases c36 : t366 ≥ 0
      rotate_left
      ·rw [if_neg c36] at H
       have c36b0 : decide (0 ≤ t366) = false := decide_eq_false c36
       clear c36
       by_cases c64 : x362000_2.length < 2513169434916
       rotate_left
       ·rw [if_neg c64] at H
        exact absurd H (by simp)
       rw [if_pos c64] at H
       have LMc64 := am_ c64
       clear c64
       obtain ⟨y377, hy377⟩ : ∃ y_ : List (S40), y_ = (x362000_2 ++ [(⟨(rd_T40 l0_0 x10_2).f0, (rd_T40 l0_0 x10_2).f1, (rd_T40 l0_0 x10_2).f2, (rd_T40 l0_0 x10_2).f3, (rd_T40 l0_0 x10_2).f4⟩ : S40)]) := ⟨_, rfl⟩
       replace H : (cantonref11_Cut.l0 k2 l1 a2 (wrap64 (x10_2 + 1)) l0_0 l0_1 x361000_2 y377) = some (r1, r2, r3, r4) := by first | (rw [hy377]; with_reducible exact H) | (have H2_ := (Option.bind_some _ _).symm.trans H; rw [hy377]; with_reducible exact H2_) | (have H2_ := (Option.bind_some _ _).symm.trans H; with_reducible exact H2_) | with_reducible exact H | (rw [hy377]; exact H) | exact H
       have Ny377 := am_ hy377
       clear hy377
       have H' := am_ H
       clear H
       have hnb65 := NB357_358.out
       have hnc65 := NB358_357.out
       have hnb66 := NB357_359.out
       have hnc66 := NB359_357.out
       have hnb67 := NB357_360.out
       have hnc67 := NB360_357.out
       have hnb68 := NB357_361.out
       have hnc68 := NB361_357.out
       have hcz69_0 : wr.cell? ⟨gb357, 0, none⟩ = some (.slice A0_0 l0_0.length c0_0) := (blk_cell BK357.out 0).trans rfl
       have hcz69_1 : wr.cell? ⟨gb357, 1, none⟩ = some (.slice A0_1 l0_1.length c0_1) := (blk_cell BK357.out 1).trans rfl
       have hfz69_0 := blk_frozen BK357.out 0
       have hfz69_1 := blk_frozen BK357.out 1
       have p364 : 0 ≤ (x10_2 : Int) := od_
       have q364 : x10_2 < (l0_0.length : Int) := od_
       obtain ⟨ad364, e364, hx364_0, hx364_1, hx364_2, hx364_3, hx364_4⟩ := at_T40 HR0_0.out x10_2 p364 q364
       cases e364
       replace hx364_0 := pw_cell_below HB.out hx364_0
       replace hx364_1 := pw_cell_below HB.out hx364_1
       replace hx364_2 := pw_cell_below HB.out hx364_2
       replace hx364_3 := pw_cell_below HB.out hx364_3
       replace hx364_4 := pw_cell_below HB.out hx364_4
       replace p364 := eq_true p364
       replace q364 := eq_true q364
       try go_wp2_with (first | ((with_reducible refine gate_callee (f := 46) rfl ?_); refine gL (some 38) Try.func46 #[.string ((rd_T40 l0_0 x10_2).f0)] rfl rfl ?_; (with_reducible refine (cantonref07_Home.calls k2 ((rd_T40 l0_0 x10_2).f0) t365 _ A34.out).mono ?_); rintro e w70 ⟨rfl, hb⟩; refine ⟨_, rfl, ?_⟩; have n0_ := am_ (Kd.R_below (kR HO_361000) hb); have n1_ := am_ (Kd.R_below (kR HO_362000) hb); have n2_ := am_ (blk_below (kB BK357) hb); have n3_ := am_ (blk_below (kB BK358) hb); have n4_ := am_ (blk_below (kB BK359) hb); have n5_ := am_ (blk_below (kB BK360) hb); have n6_ := am_ (blk_below (kB BK361) hb); have n7_ := am_ (below_step (kZ HB) hb); clear HO_361000; clear HO_362000; clear BK357; clear BK358; clear BK359; clear BK360; clear BK361; clear HB; have HO_361000 := n0_; have HO_362000 := n1_; have BK357 := n2_; have BK358 := n3_; have BK359 := n4_; have BK360 := n5_; have BK361 := n6_; have HB := n7_; clear n0_ n1_ n2_ n3_ n4_ n5_ n6_ n7_; (try clear hb); (try clear hb2); (try clear hk); (try clear hi)) | ((with_reducible refine gate_callee (f := 20) rfl ?_); refine gL (some 39) Try.func20 #[.slice A1 l1.length c1, .string t365] rfl rfl ?_; (with_reducible refine (cantonref11_Of.calls k2 _ _ l1 t365 t366 _ ?side1 ?side2 A35.out).mono ?_); (case side1 => exact kC ((Kd.C_below HR1.out HB.out))); (case side2 => exact HC1.out); rintro e w71 ⟨rfl, hb⟩; refine ⟨_, rfl, ?_⟩; have n0_ := am_ (Kd.R_below (kR HO_361000) hb); have n1_ := am_ (Kd.R_below (kR HO_362000) hb); have n2_ := am_ (blk_below (kB BK357) hb); have n3_ := am_ (blk_below (kB BK358) hb); have n4_ := am_ (blk_below (kB BK359) hb); have n5_ := am_ (blk_below (kB BK360) hb); have n6_ := am_ (blk_below (kB BK361) hb); have n7_ := am_ (below_step (kZ HB) hb); clear HO_361000; clear HO_362000; clear BK357; clear BK358; clear BK359; clear BK360; clear BK361; clear HB; have HO_361000 := n0_; have HO_362000 := n1_; have BK357 := n2_; have BK358 := n3_; have BK359 := n4_; have BK360 := n5_; have BK361 := n6_; have HB := n7_; clear n0_ n1_ n2_ n3_ n4_ n5_ n6_ n7_; (try clear hb); (try clear hb2); (try clear hk); (try clear hi)))
       have n0_ := am_ (Kd.R_drew HO_361000.out)
       have n1_ := am_ (Kd.R_drew HO_362000.out)
       have n2_ := am_ (blk_drew BK357.out)
       have n3_ := am_ (blk_drew BK358.out)
       have n4_ := am_ (blk_drew BK359.out)
       have n5_ := am_ (blk_drew BK360.out)
       have n6_ := am_ (blk_drew BK361.out)
       have n7_ := am_ (below_drew1 HB.out)
       clear HO_361000
       clear HO_362000
       clear BK357
       clear BK358
       clear BK359
       clear BK360
       clear BK361
       clear HB
       have HO_361000 := n0_
       have HO_362000 := n1_
       have BK357 := n2_
       have BK358 := n3_
       have BK359 := n4_
       have BK360 := n5_
       have BK361 := n6_
       have HB := n7_
       clear n0_ n1_ n2_ n3_ n4_ n5_ n6_ n7_
       have p376 : 0 ≤ (x10_2 : Int) := od_
       have q376 : x10_2 < (l0_0.length : Int) := od_
       obtain ⟨ad376, e376, hx376_0, hx376_1, hx376_2, hx376_3, hx376_4⟩ := at_T40 HR0_0.out x10_2 p376 q376
       have hw376_4 := hx376_4
       have hw376_3 := hx376_3
       have hw376_2 := hx376_2
       have hw376_1 := hx376_1
       have hw376_0 := hx376_0
       obtain rfl : ad364 = ad376 := (by injection e376)
       replace hx376_0 := pw_cell_below HB.out hx376_0
       replace hx376_1 := pw_cell_below HB.out hx376_1
       replace hx376_2 := pw_cell_below HB.out hx376_2
       replace hx376_3 := pw_cell_below HB.out hx376_3
       replace hx376_4 := pw_cell_below HB.out hx376_4
       replace p376 := eq_true p376
       replace q376 := eq_true q376
       refine start_ (n := 11) (S := fun w' => w'.cell? ⟨gb361, 0, none⟩ = some (u362000) ∧ w'.cell? ⟨gb361, 1, none⟩ = some (.slice none 0 0) ∧ w'.cell? ⟨gb357, 0, none⟩ = some (.slice (some ad364) l0_0.length c0_0) ∧ w'.cell? ⟨gb357, 1, none⟩ = some (.slice A0_1 l0_1.length c0_1) ∧ w'.cell? (ad364.add ((x10_2).toNat * 5)) = some (.string ((rd_T40 l0_0 x10_2).f0)) ∧ w'.cell? ⟨(ad364.add ((x10_2).toNat * 5)).block, (ad364.add ((x10_2).toNat * 5)).off + 1, none⟩ = some (.string ((rd_T40 l0_0 x10_2).f1)) ∧ w'.cell? ⟨(ad364.add ((x10_2).toNat * 5)).block, (ad364.add ((x10_2).toNat * 5)).off + 2, none⟩ = some (.int .i64 ((rd_T40 l0_0 x10_2).f2)) ∧ w'.cell? ⟨(ad364.add ((x10_2).toNat * 5)).block, (ad364.add ((x10_2).toNat * 5)).off + 3, none⟩ = some (.int .i64 ((rd_T40 l0_0 x10_2).f3)) ∧ w'.cell? ⟨(ad364.add ((x10_2).toNat * 5)).block, (ad364.add ((x10_2).toNat * 5)).off + 4, none⟩ = some (.int .i64 ((rd_T40 l0_0 x10_2).f4))) (ds := [10]) x18tr11_0 (by kernel_rfl) rfl rfl ⟨(blk_cell BK361.out 0).trans rfl, (blk_cell BK361.out 1).trans rfl, (blk_cell BK357.out 0).trans rfl, (blk_cell BK357.out 1).trans rfl, (pw_cell_below HB.out hw376_0), (pw_cell_below HB.out hw376_1), (pw_cell_below HB.out hw376_2), (pw_cell_below HB.out hw376_3), (pw_cell_below HB.out hw376_4)⟩ (fun hHeld => ?_); refine with_tabW cantonref11_Cut.tab11 cantonref11_Cut.bits11 (fun HT_ HW_ => ?_)
       generalize w71.drew = w72 at HO_361000 HO_362000 BK357 BK358 BK359 BK360 BK361 HB hx376_0 hx376_1 hx376_2 hx376_3 hx376_4 hHeld ⊢
       refine pA_ 0 61 x18tr11_1 HT_.out ?_
       refine pA_ 2 63 x18tr11_m10100000000 HT_.out ?_
       refine pA_ 4 65 x18tr11_m10101000000 HT_.out ?_
       refine tA_ 1 62 x18tr11_m11101000000 HT_.out HW_.out hHeld ?_
       refine tA_ 3 64 x18tr11_5 HT_.out HW_.out hHeld ?_
       refine pA_ 5 66 x18tr11_6 HT_.out ?_
       refine tA_ 6 67 x18tr11_7 HT_.out HW_.out hHeld ?_
       refine one_ (i := 7) (N := some 68) x18tr11_8 rfl rfl (one_of HT_.out (by kernel_rfl)) (by decide) (fun K hK => ?_)
       refine value_ (w1 := ?_) (v := ?_) (by rfl) rfl ?_ ?_
       rotate_left 2
       ·go_simp
        constructor
        ·rfl
        ·rfl
       refine hK.out _ _ ⟨(blk_cell (blk_alloc BK361.out _) 0).trans rfl, (blk_cell (blk_alloc BK361.out _) 1).trans rfl, (blk_cell (blk_alloc BK357.out _) 0).trans rfl, (blk_cell (blk_alloc BK357.out _) 1).trans rfl, (World.cell?_alloc_lt _ _ _ (World.block_lt_of_cell? _ _ ((pw_cell_below HB.out hw376_0)))).trans ((pw_cell_below HB.out hw376_0)), (World.cell?_alloc_lt _ _ _ (World.block_lt_of_cell? _ _ ((pw_cell_below HB.out hw376_1)))).trans ((pw_cell_below HB.out hw376_1)), (World.cell?_alloc_lt _ _ _ (World.block_lt_of_cell? _ _ ((pw_cell_below HB.out hw376_2)))).trans ((pw_cell_below HB.out hw376_2)), (World.cell?_alloc_lt _ _ _ (World.block_lt_of_cell? _ _ ((pw_cell_below HB.out hw376_3)))).trans ((pw_cell_below HB.out hw376_3)), (World.cell?_alloc_lt _ _ _ (World.block_lt_of_cell? _ _ ((pw_cell_below HB.out hw376_4)))).trans ((pw_cell_below HB.out hw376_4))⟩ (fun hHeld => ?_)
       clear hK K
       refine norm_ (a' := ?_) ?_ ?_
       rotate_left
       ·show Act.put _ (some 68) _ = _
        simp only [Act.put, List.setIfInBounds_toArray, List.set_cons_zero, List.set_cons_succ, i64_w, i32_w]
        rfl
       refine one_ (i := 8) (N := some 69) x18tr11_9 rfl rfl (one_of HT_.out (by kernel_rfl)) (by decide) (fun K hK => ?_)
       refine Kd.R_append_step k40 (w0 := w) w.heap.size (by rfl) (.tmp 62) (.tmp 68) 31 40 (.agg #[(.string ⟨#[]⟩), (.string ⟨#[]⟩), (.int .i64 0), (.int .i64 0), (.int .i64 0)]) 56 rfl Try.underlying31 info40 rfl (by decide) (by omega) u362000 x362000_2 (⟨(rd_T40 l0_0 x10_2).f0, (rd_T40 l0_0 x10_2).f1, (rd_T40 l0_0 x10_2).f2, (rd_T40 l0_0 x10_2).f3, (rd_T40 l0_0 x10_2).f4⟩ : S40) [.string ((rd_T40 l0_0 x10_2).f0), .string ((rd_T40 l0_0 x10_2).f1), .int .i64 ((rd_T40 l0_0 x10_2).f2), .int .i64 ((rd_T40 l0_0 x10_2).f3), .int .i64 ((rd_T40 l0_0 x10_2).f4)] (fun k_ => some k_ ≠ (u361000 : Value).ownBlock) (fun _ => False) rfl rfl ?aP (fun _ hk => hk.elim) ?aF ?aO ?aB ?aS ?aL ?_
       (case aP => exact k40_mkM _ _ _ (⟨(rd_T40 l0_0 x10_2).f0, (rd_T40 l0_0 x10_2).f1, (rd_T40 l0_0 x10_2).f2, (rd_T40 l0_0 x10_2).f3, (rd_T40 l0_0 x10_2).f4⟩ : S40))
       (case aB => exact (kZ HB))
       (case aF => exact (fun k_ hk => Kd.fresh' (Kd.R_lt (kR HO_361000)) k_ hk))
       (case aO => exact (kR HO_362000))
       (case aS => exact (below_size (kZ HB)))
       (case aL => have := LMc64.out; omega)
       intro v378 w73 ho hb hg hat
       rw [← Ny377.out] at ho
       have n0_ := am_ (Kd.R_after (ok := (fun _ => True)) (by refine kE ?_; exact Kd.R_mono HO_361000.out (fun _ hk => ⟨trivial, hk⟩)) hg hat)
       have n1_ := am_ (blk_grown (kB BK357) hg (Kd.R_ne HO_362000.out BK357.out (by decide)))
       have n2_ := am_ (blk_grown (kB BK358) hg (Kd.R_ne HO_362000.out BK358.out (by decide)))
       have n3_ := am_ (blk_grown (kB BK359) hg (Kd.R_ne HO_362000.out BK359.out (by decide)))
       have n4_ := am_ (blk_grown (kB BK360) hg (Kd.R_ne HO_362000.out BK360.out (by decide)))
       have n5_ := am_ (blk_grown (kB BK361) hg (Kd.R_ne HO_362000.out BK361.out (by decide)))
       have n6_ := am_ (hb)
       have n7_ := am_ (ho)
       clear HO_361000
       clear BK357
       clear BK358
       clear BK359
       clear BK360
       clear BK361
       clear HB
       clear HO_362000
       have HO_361000 := n0_
       have BK357 := n1_
       have BK358 := n2_
       have BK359 := n3_
       have BK360 := n4_
       have BK361 := n5_
       have HB := n6_
       have HO379 := n7_
       clear n0_ n1_ n2_ n3_ n4_ n5_ n6_ n7_
       clear ho hb hg hat
       obtain ⟨Ao74, co74, eo74⟩ := Kd.R_slice HO379.out
       (first | subst eo74 | (injection eo74 with f1_ f2_ f3_; have f4_ := f1_.symm; have f5_ := f3_.symm; clear f1_ f2_ f3_; subst f4_; subst f5_))
       refine hK.out _ _ ⟨(blk_cell BK361.out 0).trans rfl, (blk_cell BK361.out 1).trans rfl, (blk_cell BK357.out 0).trans rfl, (blk_cell BK357.out 1).trans rfl, (pw_cell_below HB.out hw376_0), (pw_cell_below HB.out hw376_1), (pw_cell_below HB.out hw376_2), (pw_cell_below HB.out hw376_3), (pw_cell_below HB.out hw376_4)⟩ (fun hHeld => ?_)
       clear hK K
       refine norm_ (a' := ?_) ?_ ?_
       rotate_left
       ·show Act.put _ (some 69) _ = _
        simp only [Act.put, List.setIfInBounds_toArray, List.set_cons_zero, List.set_cons_succ, i64_w, i32_w]
        rfl
       refine pA_ 9 70 x18tr11_10 HT_.out ?_
       refine last_ (i := 10) (N := none) x18tr11_11 rfl rfl (one_of HT_.out (by kernel_rfl)) (by decide) (fun K hK => ?_)
       have hs75 : w73.cell? ⟨gb361, 0, none⟩ = some (u362000) := (blk_cell BK361.out 0).trans rfl
       have hfs75 := blk_frozen BK361.out 0
       have hns75_0 := NB357_361.out
       have hns75_1 := NB358_361.out
       have hns75_2 := NB359_361.out
       have hns75_3 := NB360_361.out
       have hms75_0 := NB361_357.out
       have hms75_1 := NB361_358.out
       have hms75_2 := NB361_359.out
       have hms75_3 := NB361_360.out
       refine skip_ (w1 := ?_) (by rfl) rfl ?_ ?_
       rotate_left
       ·go_simp
        rfl
       refine hK.out _ _ ?_
       clear hK K
       refine done_ (done_of HT_.out (by kernel_rfl)) ?_
       try go_wp2
       go_roundg k2
       case measure => have := HJ3.out; have := HK2.out; omega
       case rel => exact ⟨(wrap64 (x10_2 + 1)), (x361000_2), (y377), (u361000), (.slice Ao74 y377.length co74), e1_, H', ⟨by have := HJ3.out; have := HK2.out; omega⟩, ⟨by refine kE ?_; exact Kd.R_mono (Kd.R_far (p := ⟨gb361, 0, none⟩) (Kd.R_types HO_361000.out BK361.out (by decide)) (fun _ hk => hk.2) (.slice Ao74 y377.length co74)) (fun _ hk => hk.1.2)⟩, ⟨by refine kE ?_; exact Kd.R_mono (Kd.R_far (p := ⟨gb361, 0, none⟩) (Kd.R_types HO379.out BK361.out (by decide)) (fun _ hk => hk.2) (.slice Ao74 y377.length co74)) (fun _ hk => hk.1)⟩, ⟨by refine kD ?_; refine blk_far ?_ NB357_361.out _; refine kD ?_; exact BK357.out⟩, ⟨by refine kD ?_; refine blk_far ?_ NB358_361.out _; refine kD ?_; exact BK358.out⟩, ⟨by refine kD ?_; refine blk_far ?_ NB359_361.out _; refine kD ?_; exact BK359.out⟩, ⟨by refine kD ?_; refine blk_far ?_ NB360_361.out _; refine kD ?_; exact BK360.out⟩, ⟨by refine kD ?_; refine blk_put (cs := #[u362000, .slice none 0 0]) ?_ 0 _ rfl; refine kD ?_; exact BK361.out⟩, ⟨kZ HB⟩⟩
      rw [if_pos c36] at H
      have c36b0 : decide (0 ≤ t366) = true := decide_eq_true c36
      clear c36
      by_cases c37 : 0 ≤ t366
      rotate_left
      ·rw [if_neg c37] at H
       exact absurd H (by simp)
      rw [if_pos c37] at H
      have c37b0 : decide (0 ≤ t366) = true := decide_eq_true c37
      clear c37
      by_cases c38 : t366 < (l1.length : Int)
      rotate_left
      ·rw [if_neg c38] at H
       exact absurd H (by simp)
      rw [if_pos c38] at H
      have c38b0 : decide (t366 < (l1.length : Int)) = true := decide_eq_true c38
      clear c38
      by_cases c39 : ((rd_T45 l1 t366).f0).toList = a2.toList
      rotate_left
      ·rw [if_neg c39] at H
       have c39b0 : (((rd_T45 l1 t366).f0).toList == a2.toList) = false := beq_eq_false_iff_ne.mpr c39
       have c39b1 : (((rd_T45 l1 t366).f0).toList != a2.toList) = true := bne_iff_ne.mpr c39
       by_cases c52 : x362000_2.length < 2513169434916
       rotate_left
       ·rw [if_neg c52] at H
        exact absurd H (by simp)
       rw [if_pos c52] at H
       have LMc52 := am_ c52
       clear c52
       obtain ⟨y373, hy373⟩ : ∃ y_ : List (S40), y_ = (x362000_2 ++ [(⟨(rd_T40 l0_0 x10_2).f0, (rd_T40 l0_0 x10_2).f1, (rd_T40 l0_0 x10_2).f2, (rd_T40 l0_0 x10_2).f3, (rd_T40 l0_0 x10_2).f4⟩ : S40)]) := ⟨_, rfl⟩
       replace H : (cantonref11_Cut.l0 k2 l1 a2 (wrap64 (x10_2 + 1)) l0_0 l0_1 x361000_2 y373) = some (r1, r2, r3, r4) := by first | (rw [hy373]; with_reducible exact H) | (have H2_ := (Option.bind_some _ _).symm.trans H; rw [hy373]; with_reducible exact H2_) | (have H2_ := (Option.bind_some _ _).symm.trans H; with_reducible exact H2_) | with_reducible exact H | (rw [hy373]; exact H) | exact H
       have Ny373 := am_ hy373
       clear hy373
       have H' := am_ H
       clear H
       have hnb53 := NB357_358.out
       have hnc53 := NB358_357.out
       have hnb54 := NB357_359.out
       have hnc54 := NB359_357.out
       have hnb55 := NB357_360.out
       have hnc55 := NB360_357.out
       have hnb56 := NB357_361.out
       have hnc56 := NB361_357.out
       have hcz57_0 : wr.cell? ⟨gb357, 0, none⟩ = some (.slice A0_0 l0_0.length c0_0) := (blk_cell BK357.out 0).trans rfl
       have hcz57_1 : wr.cell? ⟨gb357, 1, none⟩ = some (.slice A0_1 l0_1.length c0_1) := (blk_cell BK357.out 1).trans rfl
       have hfz57_0 := blk_frozen BK357.out 0
       have hfz57_1 := blk_frozen BK357.out 1
       have p364 : 0 ≤ (x10_2 : Int) := od_
       have q364 : x10_2 < (l0_0.length : Int) := od_
       obtain ⟨ad364, e364, hx364_0, hx364_1, hx364_2, hx364_3, hx364_4⟩ := at_T40 HR0_0.out x10_2 p364 q364
       cases e364
       replace hx364_0 := pw_cell_below HB.out hx364_0
       replace hx364_1 := pw_cell_below HB.out hx364_1
       replace hx364_2 := pw_cell_below HB.out hx364_2
       replace hx364_3 := pw_cell_below HB.out hx364_3
       replace hx364_4 := pw_cell_below HB.out hx364_4
       replace p364 := eq_true p364
       replace q364 := eq_true q364
       try go_wp2_with (first | ((with_reducible refine gate_callee (f := 46) rfl ?_); refine gL (some 38) Try.func46 #[.string ((rd_T40 l0_0 x10_2).f0)] rfl rfl ?_; (with_reducible refine (cantonref07_Home.calls k2 ((rd_T40 l0_0 x10_2).f0) t365 _ A34.out).mono ?_); rintro e w58 ⟨rfl, hb⟩; refine ⟨_, rfl, ?_⟩; have n0_ := am_ (Kd.R_below (kR HO_361000) hb); have n1_ := am_ (Kd.R_below (kR HO_362000) hb); have n2_ := am_ (blk_below (kB BK357) hb); have n3_ := am_ (blk_below (kB BK358) hb); have n4_ := am_ (blk_below (kB BK359) hb); have n5_ := am_ (blk_below (kB BK360) hb); have n6_ := am_ (blk_below (kB BK361) hb); have n7_ := am_ (below_step (kZ HB) hb); clear HO_361000; clear HO_362000; clear BK357; clear BK358; clear BK359; clear BK360; clear BK361; clear HB; have HO_361000 := n0_; have HO_362000 := n1_; have BK357 := n2_; have BK358 := n3_; have BK359 := n4_; have BK360 := n5_; have BK361 := n6_; have HB := n7_; clear n0_ n1_ n2_ n3_ n4_ n5_ n6_ n7_; (try clear hb); (try clear hb2); (try clear hk); (try clear hi)) | ((with_reducible refine gate_callee (f := 20) rfl ?_); refine gL (some 39) Try.func20 #[.slice A1 l1.length c1, .string t365] rfl rfl ?_; (with_reducible refine (cantonref11_Of.calls k2 _ _ l1 t365 t366 _ ?side1 ?side2 A35.out).mono ?_); (case side1 => exact kC ((Kd.C_below HR1.out HB.out))); (case side2 => exact HC1.out); rintro e w59 ⟨rfl, hb⟩; refine ⟨_, rfl, ?_⟩; have n0_ := am_ (Kd.R_below (kR HO_361000) hb); have n1_ := am_ (Kd.R_below (kR HO_362000) hb); have n2_ := am_ (blk_below (kB BK357) hb); have n3_ := am_ (blk_below (kB BK358) hb); have n4_ := am_ (blk_below (kB BK359) hb); have n5_ := am_ (blk_below (kB BK360) hb); have n6_ := am_ (blk_below (kB BK361) hb); have n7_ := am_ (below_step (kZ HB) hb); clear HO_361000; clear HO_362000; clear BK357; clear BK358; clear BK359; clear BK360; clear BK361; clear HB; have HO_361000 := n0_; have HO_362000 := n1_; have BK357 := n2_; have BK358 := n3_; have BK359 := n4_; have BK360 := n5_; have BK361 := n6_; have HB := n7_; clear n0_ n1_ n2_ n3_ n4_ n5_ n6_ n7_; (try clear hb); (try clear hb2); (try clear hk); (try clear hi); have p367 : 0 ≤ (t366 : Int) := od_; have q367 : t366 < (l1.length : Int) := od_; obtain ⟨ad367, e367, hx367_0, hx367_1, hx367_2⟩ := at_T45 HR1.out t366 p367 q367; cases e367; replace hx367_0 := pw_cell_below HB.out hx367_0; replace hx367_1 := pw_cell_below HB.out hx367_1; replace hx367_2 := pw_cell_below HB.out hx367_2; replace p367 := eq_true p367; replace q367 := eq_true q367))
       have n0_ := am_ (Kd.R_drew HO_361000.out)
       have n1_ := am_ (Kd.R_drew HO_362000.out)
       have n2_ := am_ (blk_drew BK357.out)
       have n3_ := am_ (blk_drew BK358.out)
       have n4_ := am_ (blk_drew BK359.out)
       have n5_ := am_ (blk_drew BK360.out)
       have n6_ := am_ (blk_drew BK361.out)
       have n7_ := am_ (below_drew1 HB.out)
       clear HO_361000
       clear HO_362000
       clear BK357
       clear BK358
       clear BK359
       clear BK360
       clear BK361
       clear HB
       have HO_361000 := n0_
       have HO_362000 := n1_
       have BK357 := n2_
       have BK358 := n3_
       have BK359 := n4_
       have BK360 := n5_
       have BK361 := n6_
       have HB := n7_
       clear n0_ n1_ n2_ n3_ n4_ n5_ n6_ n7_
       have p372 : 0 ≤ (x10_2 : Int) := od_
       have q372 : x10_2 < (l0_0.length : Int) := od_
       obtain ⟨ad372, e372, hx372_0, hx372_1, hx372_2, hx372_3, hx372_4⟩ := at_T40 HR0_0.out x10_2 p372 q372
       have hw372_4 := hx372_4
       have hw372_3 := hx372_3
       have hw372_2 := hx372_2
       have hw372_1 := hx372_1
       have hw372_0 := hx372_0
       obtain rfl : ad364 = ad372 := (by injection e372)
       replace hx372_0 := pw_cell_below HB.out hx372_0
       replace hx372_1 := pw_cell_below HB.out hx372_1
       replace hx372_2 := pw_cell_below HB.out hx372_2
       replace hx372_3 := pw_cell_below HB.out hx372_3
       replace hx372_4 := pw_cell_below HB.out hx372_4
       replace p372 := eq_true p372
       replace q372 := eq_true q372
       refine start_ (n := 11) (S := fun w' => w'.cell? ⟨gb361, 0, none⟩ = some (u362000) ∧ w'.cell? ⟨gb361, 1, none⟩ = some (.slice none 0 0) ∧ w'.cell? ⟨gb357, 0, none⟩ = some (.slice (some ad364) l0_0.length c0_0) ∧ w'.cell? ⟨gb357, 1, none⟩ = some (.slice A0_1 l0_1.length c0_1) ∧ w'.cell? (ad364.add ((x10_2).toNat * 5)) = some (.string ((rd_T40 l0_0 x10_2).f0)) ∧ w'.cell? ⟨(ad364.add ((x10_2).toNat * 5)).block, (ad364.add ((x10_2).toNat * 5)).off + 1, none⟩ = some (.string ((rd_T40 l0_0 x10_2).f1)) ∧ w'.cell? ⟨(ad364.add ((x10_2).toNat * 5)).block, (ad364.add ((x10_2).toNat * 5)).off + 2, none⟩ = some (.int .i64 ((rd_T40 l0_0 x10_2).f2)) ∧ w'.cell? ⟨(ad364.add ((x10_2).toNat * 5)).block, (ad364.add ((x10_2).toNat * 5)).off + 3, none⟩ = some (.int .i64 ((rd_T40 l0_0 x10_2).f3)) ∧ w'.cell? ⟨(ad364.add ((x10_2).toNat * 5)).block, (ad364.add ((x10_2).toNat * 5)).off + 4, none⟩ = some (.int .i64 ((rd_T40 l0_0 x10_2).f4))) (ds := [10]) x18tr11_0 (by kernel_rfl) rfl rfl ⟨(blk_cell BK361.out 0).trans rfl, (blk_cell BK361.out 1).trans rfl, (blk_cell BK357.out 0).trans rfl, (blk_cell BK357.out 1).trans rfl, (pw_cell_below HB.out hw372_0), (pw_cell_below HB.out hw372_1), (pw_cell_below HB.out hw372_2), (pw_cell_below HB.out hw372_3), (pw_cell_below HB.out hw372_4)⟩ (fun hHeld => ?_); refine with_tabW cantonref11_Cut.tab11 cantonref11_Cut.bits11 (fun HT_ HW_ => ?_)
       generalize w59.drew = w60 at HO_361000 HO_362000 BK357 BK358 BK359 BK360 BK361 HB hx372_0 hx372_1 hx372_2 hx372_3 hx372_4 hHeld ⊢
       refine pA_ 0 61 x18tr11_1 HT_.out ?_
       refine pA_ 2 63 x18tr11_m10100000000 HT_.out ?_
       refine pA_ 4 65 x18tr11_m10101000000 HT_.out ?_
       refine tA_ 1 62 x18tr11_m11101000000 HT_.out HW_.out hHeld ?_
       refine tA_ 3 64 x18tr11_5 HT_.out HW_.out hHeld ?_
       refine pA_ 5 66 x18tr11_6 HT_.out ?_
       refine tA_ 6 67 x18tr11_7 HT_.out HW_.out hHeld ?_
       refine one_ (i := 7) (N := some 68) x18tr11_8 rfl rfl (one_of HT_.out (by kernel_rfl)) (by decide) (fun K hK => ?_)
       refine value_ (w1 := ?_) (v := ?_) (by rfl) rfl ?_ ?_
       rotate_left 2
       ·go_simp
        constructor
        ·rfl
        ·rfl
       refine hK.out _ _ ⟨(blk_cell (blk_alloc BK361.out _) 0).trans rfl, (blk_cell (blk_alloc BK361.out _) 1).trans rfl, (blk_cell (blk_alloc BK357.out _) 0).trans rfl, (blk_cell (blk_alloc BK357.out _) 1).trans rfl, (World.cell?_alloc_lt _ _ _ (World.block_lt_of_cell? _ _ ((pw_cell_below HB.out hw372_0)))).trans ((pw_cell_below HB.out hw372_0)), (World.cell?_alloc_lt _ _ _ (World.block_lt_of_cell? _ _ ((pw_cell_below HB.out hw372_1)))).trans ((pw_cell_below HB.out hw372_1)), (World.cell?_alloc_lt _ _ _ (World.block_lt_of_cell? _ _ ((pw_cell_below HB.out hw372_2)))).trans ((pw_cell_below HB.out hw372_2)), (World.cell?_alloc_lt _ _ _ (World.block_lt_of_cell? _ _ ((pw_cell_below HB.out hw372_3)))).trans ((pw_cell_below HB.out hw372_3)), (World.cell?_alloc_lt _ _ _ (World.block_lt_of_cell? _ _ ((pw_cell_below HB.out hw372_4)))).trans ((pw_cell_below HB.out hw372_4))⟩ (fun hHeld => ?_)
       clear hK K
       refine norm_ (a' := ?_) ?_ ?_
       rotate_left
       ·show Act.put _ (some 68) _ = _
        simp only [Act.put, List.setIfInBounds_toArray, List.set_cons_zero, List.set_cons_succ, i64_w, i32_w]
        rfl
       refine one_ (i := 8) (N := some 69) x18tr11_9 rfl rfl (one_of HT_.out (by kernel_rfl)) (by decide) (fun K hK => ?_)
       refine Kd.R_append_step k40 (w0 := w) w.heap.size (by rfl) (.tmp 62) (.tmp 68) 31 40 (.agg #[(.string ⟨#[]⟩), (.string ⟨#[]⟩), (.int .i64 0), (.int .i64 0), (.int .i64 0)]) 56 rfl Try.underlying31 info40 rfl (by decide) (by omega) u362000 x362000_2 (⟨(rd_T40 l0_0 x10_2).f0, (rd_T40 l0_0 x10_2).f1, (rd_T40 l0_0 x10_2).f2, (rd_T40 l0_0 x10_2).f3, (rd_T40 l0_0 x10_2).f4⟩ : S40) [.string ((rd_T40 l0_0 x10_2).f0), .string ((rd_T40 l0_0 x10_2).f1), .int .i64 ((rd_T40 l0_0 x10_2).f2), .int .i64 ((rd_T40 l0_0 x10_2).f3), .int .i64 ((rd_T40 l0_0 x10_2).f4)] (fun k_ => some k_ ≠ (u361000 : Value).ownBlock) (fun _ => False) rfl rfl ?aP (fun _ hk => hk.elim) ?aF ?aO ?aB ?aS ?aL ?_
       (case aP => exact k40_mkM _ _ _ (⟨(rd_T40 l0_0 x10_2).f0, (rd_T40 l0_0 x10_2).f1, (rd_T40 l0_0 x10_2).f2, (rd_T40 l0_0 x10_2).f3, (rd_T40 l0_0 x10_2).f4⟩ : S40))
       (case aB => exact (kZ HB))
       (case aF => exact (fun k_ hk => Kd.fresh' (Kd.R_lt (kR HO_361000)) k_ hk))
       (case aO => exact (kR HO_362000))
       (case aS => exact (below_size (kZ HB)))
       (case aL => have := LMc52.out; omega)
       intro v374 w61 ho hb hg hat
       rw [← Ny373.out] at ho
       have n0_ := am_ (Kd.R_after (ok := (fun _ => True)) (by refine kE ?_; exact Kd.R_mono HO_361000.out (fun _ hk => ⟨trivial, hk⟩)) hg hat)
       have n1_ := am_ (blk_grown (kB BK357) hg (Kd.R_ne HO_362000.out BK357.out (by decide)))
       have n2_ := am_ (blk_grown (kB BK358) hg (Kd.R_ne HO_362000.out BK358.out (by decide)))
       have n3_ := am_ (blk_grown (kB BK359) hg (Kd.R_ne HO_362000.out BK359.out (by decide)))
       have n4_ := am_ (blk_grown (kB BK360) hg (Kd.R_ne HO_362000.out BK360.out (by decide)))
       have n5_ := am_ (blk_grown (kB BK361) hg (Kd.R_ne HO_362000.out BK361.out (by decide)))
       have n6_ := am_ (hb)
       have n7_ := am_ (ho)
       clear HO_361000
       clear BK357
       clear BK358
       clear BK359
       clear BK360
       clear BK361
       clear HB
       clear HO_362000
       have HO_361000 := n0_
       have BK357 := n1_
       have BK358 := n2_
       have BK359 := n3_
       have BK360 := n4_
       have BK361 := n5_
       have HB := n6_
       have HO375 := n7_
       clear n0_ n1_ n2_ n3_ n4_ n5_ n6_ n7_
       clear ho hb hg hat
       obtain ⟨Ao62, co62, eo62⟩ := Kd.R_slice HO375.out
       (first | subst eo62 | (injection eo62 with f1_ f2_ f3_; have f4_ := f1_.symm; have f5_ := f3_.symm; clear f1_ f2_ f3_; subst f4_; subst f5_))
       refine hK.out _ _ ⟨(blk_cell BK361.out 0).trans rfl, (blk_cell BK361.out 1).trans rfl, (blk_cell BK357.out 0).trans rfl, (blk_cell BK357.out 1).trans rfl, (pw_cell_below HB.out hw372_0), (pw_cell_below HB.out hw372_1), (pw_cell_below HB.out hw372_2), (pw_cell_below HB.out hw372_3), (pw_cell_below HB.out hw372_4)⟩ (fun hHeld => ?_)
       clear hK K
       refine norm_ (a' := ?_) ?_ ?_
       rotate_left
       ·show Act.put _ (some 69) _ = _
        simp only [Act.put, List.setIfInBounds_toArray, List.set_cons_zero, List.set_cons_succ, i64_w, i32_w]
        rfl
       refine pA_ 9 70 x18tr11_10 HT_.out ?_
       refine last_ (i := 10) (N := none) x18tr11_11 rfl rfl (one_of HT_.out (by kernel_rfl)) (by decide) (fun K hK => ?_)
       have hs63 : w61.cell? ⟨gb361, 0, none⟩ = some (u362000) := (blk_cell BK361.out 0).trans rfl
       have hfs63 := blk_frozen BK361.out 0
       have hns63_0 := NB357_361.out
       have hns63_1 := NB358_361.out
       have hns63_2 := NB359_361.out
       have hns63_3 := NB360_361.out
       have hms63_0 := NB361_357.out
       have hms63_1 := NB361_358.out
       have hms63_2 := NB361_359.out
       have hms63_3 := NB361_360.out
       refine skip_ (w1 := ?_) (by rfl) rfl ?_ ?_
       rotate_left
       ·go_simp
        rfl
       refine hK.out _ _ ?_
       clear hK K
       refine done_ (done_of HT_.out (by kernel_rfl)) ?_
       try go_wp2
       go_roundg k2
       case measure => have := HJ3.out; have := HK2.out; omega
       case rel => exact ⟨(wrap64 (x10_2 + 1)), (x361000_2), (y373), (u361000), (.slice Ao62 y373.length co62), e1_, H', ⟨by have := HJ3.out; have := HK2.out; omega⟩, ⟨by refine kE ?_; exact Kd.R_mono (Kd.R_far (p := ⟨gb361, 0, none⟩) (Kd.R_types HO_361000.out BK361.out (by decide)) (fun _ hk => hk.2) (.slice Ao62 y373.length co62)) (fun _ hk => hk.1.2)⟩, ⟨by refine kE ?_; exact Kd.R_mono (Kd.R_far (p := ⟨gb361, 0, none⟩) (Kd.R_types HO375.out BK361.out (by decide)) (fun _ hk => hk.2) (.slice Ao62 y373.length co62)) (fun _ hk => hk.1)⟩, ⟨by refine kD ?_; refine blk_far ?_ NB357_361.out _; refine kD ?_; exact BK357.out⟩, ⟨by refine kD ?_; refine blk_far ?_ NB358_361.out _; refine kD ?_; exact BK358.out⟩, ⟨by refine kD ?_; refine blk_far ?_ NB359_361.out _; refine kD ?_; exact BK359.out⟩, ⟨by refine kD ?_; refine blk_far ?_ NB360_361.out _; refine kD ?_; exact BK360.out⟩, ⟨by refine kD ?_; refine blk_put (cs := #[u362000, .slice none 0 0]) ?_ 0 _ rfl; refine kD ?_; exact BK361.out⟩, ⟨kZ HB⟩⟩
      rw [if_pos c39] at H
      have c39b0 : (((rd_T45 l1 t366).f0).toList == a2.toList) = true := beq_iff_eq.mpr c39
      have c39b1 : (((rd_T45 l1 t366).f0).toList != a2.toList) = false := bne_eq_false_iff_eq.mpr c39
      clear c39
      by_cases c40 : x361000_2.length < 2513169434916
      rotate_left
      ·rw [if_neg c40] at H
       exact absurd H (by simp)
      rw [if_pos c40] at H
      have LMc40 := am_ c40
      clear c40
      obtain ⟨y369, hy369⟩ : ∃ y_ : List (S40), y_ = (x361000_2 ++ [(⟨(rd_T40 l0_0 x10_2).f0, (rd_T40 l0_0 x10_2).f1, (rd_T40 l0_0 x10_2).f2, (rd_T40 l0_0 x10_2).f3, (rd_T40 l0_0 x10_2).f4⟩ : S40)]) := ⟨_, rfl⟩
      replace H : (cantonref11_Cut.l0 k2 l1 a2 (wrap64 (x10_2 + 1)) l0_0 l0_1 y369 x362000_2) = some (r1, r2, r3, r4) := by first | (rw [hy369]; with_reducible exact H) | (have H2_ := (Option.bind_some _ _).symm.trans H; rw [hy369]; with_reducible exact H2_) | (have H2_ := (Option.bind_some _ _).symm.trans H; with_reducible exact H2_) | with_reducible exact H | (rw [hy369]; exact H) | exact H
      have Ny369 := am_ hy369
      clear hy369
      have H' := am_ H
      clear H
      have hnb41 := NB357_358.out
      have hnc41 := NB358_357.out
      have hnb42 := NB357_359.out
      have hnc42 := NB359_357.out
      have hnb43 := NB357_360.out
      have hnc43 := NB360_357.out
      have hnb44 := NB357_361.out
      have hnc44 := NB361_357.out
      have hcz45_0 : wr.cell? ⟨gb357, 0, none⟩ = some (.slice A0_0 l0_0.length c0_0) := (blk_cell BK357.out 0).trans rfl
      have hcz45_1 : wr.cell? ⟨gb357, 1, none⟩ = some (.slice A0_1 l0_1.length c0_1) := (blk_cell BK357.out 1).trans rfl
      have hfz45_0 := blk_frozen BK357.out 0
      have hfz45_1 := blk_frozen BK357.out 1
      have p364 : 0 ≤ (x10_2 : Int) := od_
      have q364 : x10_2 < (l0_0.length : Int) := od_
      obtain ⟨ad364, e364, hx364_0, hx364_1, hx364_2, hx364_3, hx364_4⟩ := at_T40 HR0_0.out x10_2 p364 q364
      cases e364
      replace hx364_0 := pw_cell_below HB.out hx364_0
      replace hx364_1 := pw_cell_below HB.out hx364_1
      replace hx364_2 := pw_cell_below HB.out hx364_2
      replace hx364_3 := pw_cell_below HB.out hx364_3
      replace hx364_4 := pw_cell_below HB.out hx364_4
      replace p364 := eq_true p364
      replace q364 := eq_true q364
      try go_wp2_with (first | ((with_reducible refine gate_callee (f := 46) rfl ?_); refine gL (some 38) Try.func46 #[.string ((rd_T40 l0_0 x10_2).f0)] rfl rfl ?_; (with_reducible refine (cantonref07_Home.calls k2 ((rd_T40 l0_0 x10_2).f0) t365 _ A34.out).mono ?_); rintro e w46 ⟨rfl, hb⟩; refine ⟨_, rfl, ?_⟩; have n0_ := am_ (Kd.R_below (kR HO_361000) hb); have n1_ := am_ (Kd.R_below (kR HO_362000) hb); have n2_ := am_ (blk_below (kB BK357) hb); have n3_ := am_ (blk_below (kB BK358) hb); have n4_ := am_ (blk_below (kB BK359) hb); have n5_ := am_ (blk_below (kB BK360) hb); have n6_ := am_ (blk_below (kB BK361) hb); have n7_ := am_ (below_step (kZ HB) hb); clear HO_361000; clear HO_362000; clear BK357; clear BK358; clear BK359; clear BK360; clear BK361; clear HB; have HO_361000 := n0_; have HO_362000 := n1_; have BK357 := n2_; have BK358 := n3_; have BK359 := n4_; have BK360 := n5_; have BK361 := n6_; have HB := n7_; clear n0_ n1_ n2_ n3_ n4_ n5_ n6_ n7_; (try clear hb); (try clear hb2); (try clear hk); (try clear hi)) | ((with_reducible refine gate_callee (f := 20) rfl ?_); refine gL (some 39) Try.func20 #[.slice A1 l1.length c1, .string t365] rfl rfl ?_; (with_reducible refine (cantonref11_Of.calls k2 _ _ l1 t365 t366 _ ?side1 ?side2 A35.out).mono ?_); (case side1 => exact kC ((Kd.C_below HR1.out HB.out))); (case side2 => exact HC1.out); rintro e w47 ⟨rfl, hb⟩; refine ⟨_, rfl, ?_⟩; have n0_ := am_ (Kd.R_below (kR HO_361000) hb); have n1_ := am_ (Kd.R_below (kR HO_362000) hb); have n2_ := am_ (blk_below (kB BK357) hb); have n3_ := am_ (blk_below (kB BK358) hb); have n4_ := am_ (blk_below (kB BK359) hb); have n5_ := am_ (blk_below (kB BK360) hb); have n6_ := am_ (blk_below (kB BK361) hb); have n7_ := am_ (below_step (kZ HB) hb); clear HO_361000; clear HO_362000; clear BK357; clear BK358; clear BK359; clear BK360; clear BK361; clear HB; have HO_361000 := n0_; have HO_362000 := n1_; have BK357 := n2_; have BK358 := n3_; have BK359 := n4_; have BK360 := n5_; have BK361 := n6_; have HB := n7_; clear n0_ n1_ n2_ n3_ n4_ n5_ n6_ n7_; (try clear hb); (try clear hb2); (try clear hk); (try clear hi); have p367 : 0 ≤ (t366 : Int) := od_; have q367 : t366 < (l1.length : Int) := od_; obtain ⟨ad367, e367, hx367_0, hx367_1, hx367_2⟩ := at_T45 HR1.out t366 p367 q367; cases e367; replace hx367_0 := pw_cell_below HB.out hx367_0; replace hx367_1 := pw_cell_below HB.out hx367_1; replace hx367_2 := pw_cell_below HB.out hx367_2; replace p367 := eq_true p367; replace q367 := eq_true q367))
      have n0_ := am_ (Kd.R_drew HO_361000.out)
      have n1_ := am_ (Kd.R_drew HO_362000.out)
      have n2_ := am_ (blk_drew BK357.out)
      have n3_ := am_ (blk_drew BK358.out)
      have n4_ := am_ (blk_drew BK359.out)
      have n5_ := am_ (blk_drew BK360.out)
      have n6_ := am_ (blk_drew BK361.out)
      have n7_ := am_ (below_drew1 HB.out)
      clear HO_361000
      clear HO_362000
      clear BK357
      clear BK358
      clear BK359
      clear BK360
      clear BK361
      clear HB
      have HO_361000 := n0_
      have HO_362000 := n1_
      have BK357 := n2_
      have BK358 := n3_
      have BK359 := n4_
      have BK360 := n5_
      have BK361 := n6_
      have HB := n7_
      clear n0_ n1_ n2_ n3_ n4_ n5_ n6_ n7_
      have p368 : 0 ≤ (x10_2 : Int) := od_
      have q368 : x10_2 < (l0_0.length : Int) := od_
      obtain ⟨ad368, e368, hx368_0, hx368_1, hx368_2, hx368_3, hx368_4⟩ := at_T40 HR0_0.out x10_2 p368 q368
      have hw368_4 := hx368_4
      have hw368_3 := hx368_3
      have hw368_2 := hx368_2
      have hw368_1 := hx368_1
      have hw368_0 := hx368_0
      obtain rfl : ad364 = ad368 := (by injection e368)
      replace hx368_0 := pw_cell_below HB.out hx368_0
      replace hx368_1 := pw_cell_below HB.out hx368_1
      replace hx368_2 := pw_cell_below HB.out hx368_2
      replace hx368_3 := pw_cell_below HB.out hx368_3
      replace hx368_4 := pw_cell_below HB.out hx368_4
      replace p368 := eq_true p368
      replace q368 := eq_true q368
      refine start_ (n := 11) (S := fun w' => w'.cell? ⟨gb360, 0, none⟩ = some (u361000) ∧ w'.cell? ⟨gb360, 1, none⟩ = some (.slice none 0 0) ∧ w'.cell? ⟨gb357, 0, none⟩ = some (.slice (some ad364) l0_0.length c0_0) ∧ w'.cell? ⟨gb357, 1, none⟩ = some (.slice A0_1 l0_1.length c0_1) ∧ w'.cell? (ad364.add ((x10_2).toNat * 5)) = some (.string ((rd_T40 l0_0 x10_2).f0)) ∧ w'.cell? ⟨(ad364.add ((x10_2).toNat * 5)).block, (ad364.add ((x10_2).toNat * 5)).off + 1, none⟩ = some (.string ((rd_T40 l0_0 x10_2).f1)) ∧ w'.cell? ⟨(ad364.add ((x10_2).toNat * 5)).block, (ad364.add ((x10_2).toNat * 5)).off + 2, none⟩ = some (.int .i64 ((rd_T40 l0_0 x10_2).f2)) ∧ w'.cell? ⟨(ad364.add ((x10_2).toNat * 5)).block, (ad364.add ((x10_2).toNat * 5)).off + 3, none⟩ = some (.int .i64 ((rd_T40 l0_0 x10_2).f3)) ∧ w'.cell? ⟨(ad364.add ((x10_2).toNat * 5)).block, (ad364.add ((x10_2).toNat * 5)).off + 4, none⟩ = some (.int .i64 ((rd_T40 l0_0 x10_2).f4))) (ds := [10]) x18tr11_0 (by kernel_rfl) rfl rfl ⟨(blk_cell BK360.out 0).trans rfl, (blk_cell BK360.out 1).trans rfl, (blk_cell BK357.out 0).trans rfl, (blk_cell BK357.out 1).trans rfl, (pw_cell_below HB.out hw368_0), (pw_cell_below HB.out hw368_1), (pw_cell_below HB.out hw368_2), (pw_cell_below HB.out hw368_3), (pw_cell_below HB.out hw368_4)⟩ (fun hHeld => ?_); refine with_tabW cantonref11_Cut.tab10 cantonref11_Cut.bits10 (fun HT_ HW_ => ?_)
      generalize w47.drew = w48 at HO_361000 HO_362000 BK357 BK358 BK359 BK360 BK361 HB hx368_0 hx368_1 hx368_2 hx368_3 hx368_4 hHeld ⊢
      refine pA_ 0 51 x18tr11_1 HT_.out ?_
      refine pA_ 2 53 x18tr11_m10100000000 HT_.out ?_
      refine pA_ 4 55 x18tr11_m10101000000 HT_.out ?_
      refine tA_ 1 52 x18tr11_m11101000000 HT_.out HW_.out hHeld ?_
      refine tA_ 3 54 x18tr11_5 HT_.out HW_.out hHeld ?_
      refine pA_ 5 56 x18tr11_6 HT_.out ?_
      refine tA_ 6 57 x18tr11_7 HT_.out HW_.out hHeld ?_
      refine one_ (i := 7) (N := some 58) x18tr11_8 rfl rfl (one_of HT_.out (by kernel_rfl)) (by decide) (fun K hK => ?_)
      refine value_ (w1 := ?_) (v := ?_) (by rfl) rfl ?_ ?_
      rotate_left 2
      ·go_simp
       constructor
       ·rfl
       ·rfl
      refine hK.out _ _ ⟨(blk_cell (blk_alloc BK360.out _) 0).trans rfl, (blk_cell (blk_alloc BK360.out _) 1).trans rfl, (blk_cell (blk_alloc BK357.out _) 0).trans rfl, (blk_cell (blk_alloc BK357.out _) 1).trans rfl, (World.cell?_alloc_lt _ _ _ (World.block_lt_of_cell? _ _ ((pw_cell_below HB.out hw368_0)))).trans ((pw_cell_below HB.out hw368_0)), (World.cell?_alloc_lt _ _ _ (World.block_lt_of_cell? _ _ ((pw_cell_below HB.out hw368_1)))).trans ((pw_cell_below HB.out hw368_1)), (World.cell?_alloc_lt _ _ _ (World.block_lt_of_cell? _ _ ((pw_cell_below HB.out hw368_2)))).trans ((pw_cell_below HB.out hw368_2)), (World.cell?_alloc_lt _ _ _ (World.block_lt_of_cell? _ _ ((pw_cell_below HB.out hw368_3)))).trans ((pw_cell_below HB.out hw368_3)), (World.cell?_alloc_lt _ _ _ (World.block_lt_of_cell? _ _ ((pw_cell_below HB.out hw368_4)))).trans ((pw_cell_below HB.out hw368_4))⟩ (fun hHeld => ?_)
      clear hK K
      refine norm_ (a' := ?_) ?_ ?_
      rotate_left
      ·show Act.put _ (some 58) _ = _
       simp only [Act.put, List.setIfInBounds_toArray, List.set_cons_zero, List.set_cons_succ, i64_w, i32_w]
       rfl
      refine one_ (i := 8) (N := some 59) x18tr11_9 rfl rfl (one_of HT_.out (by kernel_rfl)) (by decide) (fun K hK => ?_)
      refine Kd.R_append_step k40 (w0 := w) w.heap.size (by rfl) (.tmp 52) (.tmp 58) 31 40 (.agg #[(.string ⟨#[]⟩), (.string ⟨#[]⟩), (.int .i64 0), (.int .i64 0), (.int .i64 0)]) 56 rfl Try.underlying31 info40 rfl (by decide) (by omega) u361000 x361000_2 (⟨(rd_T40 l0_0 x10_2).f0, (rd_T40 l0_0 x10_2).f1, (rd_T40 l0_0 x10_2).f2, (rd_T40 l0_0 x10_2).f3, (rd_T40 l0_0 x10_2).f4⟩ : S40) [.string ((rd_T40 l0_0 x10_2).f0), .string ((rd_T40 l0_0 x10_2).f1), .int .i64 ((rd_T40 l0_0 x10_2).f2), .int .i64 ((rd_T40 l0_0 x10_2).f3), .int .i64 ((rd_T40 l0_0 x10_2).f4)] (fun k_ => some k_ ≠ (u362000 : Value).ownBlock) (fun _ => False) rfl rfl ?aP (fun _ hk => hk.elim) ?aF ?aO ?aB ?aS ?aL ?_
      (case aP => exact k40_mkM _ _ _ (⟨(rd_T40 l0_0 x10_2).f0, (rd_T40 l0_0 x10_2).f1, (rd_T40 l0_0 x10_2).f2, (rd_T40 l0_0 x10_2).f3, (rd_T40 l0_0 x10_2).f4⟩ : S40))
      (case aB => exact (kZ HB))
      (case aF => exact (fun k_ hk => Kd.fresh' (Kd.R_lt (kR HO_362000)) k_ hk))
      (case aO => exact (kR HO_361000))
      (case aS => exact (below_size (kZ HB)))
      (case aL => have := LMc40.out; omega)
      intro v370 w49 ho hb hg hat
      rw [← Ny369.out] at ho
      have n0_ := am_ (Kd.R_after (ok := (fun _ => True)) (by refine kE ?_; exact Kd.R_mono HO_362000.out (fun _ hk => ⟨trivial, hk⟩)) hg hat)
      have n1_ := am_ (blk_grown (kB BK357) hg (Kd.R_ne HO_361000.out BK357.out (by decide)))
      have n2_ := am_ (blk_grown (kB BK358) hg (Kd.R_ne HO_361000.out BK358.out (by decide)))
      have n3_ := am_ (blk_grown (kB BK359) hg (Kd.R_ne HO_361000.out BK359.out (by decide)))
      have n4_ := am_ (blk_grown (kB BK360) hg (Kd.R_ne HO_361000.out BK360.out (by decide)))
      have n5_ := am_ (blk_grown (kB BK361) hg (Kd.R_ne HO_361000.out BK361.out (by decide)))
      have n6_ := am_ (hb)
      have n7_ := am_ (ho)
      clear HO_362000
      clear BK357
      clear BK358
      clear BK359
      clear BK360
      clear BK361
      clear HB
      clear HO_361000
      have HO_362000 := n0_
      have BK357 := n1_
      have BK358 := n2_
      have BK359 := n3_
      have BK360 := n4_
      have BK361 := n5_
      have HB := n6_
      have HO371 := n7_
      clear n0_ n1_ n2_ n3_ n4_ n5_ n6_ n7_
      clear ho hb hg hat
      obtain ⟨Ao50, co50, eo50⟩ := Kd.R_slice HO371.out
      (first | subst eo50 | (injection eo50 with f1_ f2_ f3_; have f4_ := f1_.symm; have f5_ := f3_.symm; clear f1_ f2_ f3_; subst f4_; subst f5_))
      refine hK.out _ _ ⟨(blk_cell BK360.out 0).trans rfl, (blk_cell BK360.out 1).trans rfl, (blk_cell BK357.out 0).trans rfl, (blk_cell BK357.out 1).trans rfl, (pw_cell_below HB.out hw368_0), (pw_cell_below HB.out hw368_1), (pw_cell_below HB.out hw368_2), (pw_cell_below HB.out hw368_3), (pw_cell_below HB.out hw368_4)⟩ (fun hHeld => ?_)
      clear hK K
      refine norm_ (a' := ?_) ?_ ?_
      rotate_left
      ·show Act.put _ (some 59) _ = _
       simp only [Act.put, List.setIfInBounds_toArray, List.set_cons_zero, List.set_cons_succ, i64_w, i32_w]
       rfl
      refine pA_ 9 60 x18tr11_10 HT_.out ?_
      refine last_ (i := 10) (N := none) x18tr11_11 rfl rfl (one_of HT_.out (by kernel_rfl)) (by decide) (fun K hK => ?_)
      have hs51 : w49.cell? ⟨gb360, 0, none⟩ = some (u361000) := (blk_cell BK360.out 0).trans rfl
      have hfs51 := blk_frozen BK360.out 0
      have hns51_0 := NB357_360.out
      have hns51_1 := NB358_360.out
      have hns51_2 := NB359_360.out
      have hns51_4 := NB361_360.out
      have hms51_0 := NB360_357.out
      have hms51_1 := NB360_358.out
      have hms51_2 := NB360_359.out
      have hms51_4 := NB360_361.out
      refine skip_ (w1 := ?_) (by rfl) rfl ?_ ?_
      rotate_left
      ·go_simp
       rfl
      refine hK.out _ _ ?_
      clear hK K
      refine done_ (done_of HT_.out (by kernel_rfl)) ?_
      try go_wp2
      go_roundg k2
      case measure => have := HJ3.out; have := HK2.out; omega
      case rel => exact ⟨(wrap64 (x10_2 + 1)), (y369), (x362000_2), (.slice Ao50 y369.length co50), (u362000), e1_, H', ⟨by have := HJ3.out; have := HK2.out; omega⟩, ⟨by refine kE ?_; exact Kd.R_mono (Kd.R_far (p := ⟨gb360, 0, none⟩) (Kd.R_types HO371.out BK360.out (by decide)) (fun _ hk => hk.2) (.slice Ao50 y369.length co50)) (fun _ hk => hk.1)⟩, ⟨by refine kE ?_; exact Kd.R_mono (Kd.R_far (p := ⟨gb360, 0, none⟩) (Kd.R_types HO_362000.out BK360.out (by decide)) (fun _ hk => hk.2) (.slice Ao50 y369.length co50)) (fun _ hk => hk.1.2)⟩, ⟨by refine kD ?_; refine blk_far ?_ NB357_360.out _; refine kD ?_; exact BK357.out⟩, ⟨by refine kD ?_; refine blk_far ?_ NB358_360.out _; refine kD ?_; exact BK358.out⟩, ⟨by refine kD ?_; refine blk_far ?_ NB359_360.out _; refine kD ?_; exact BK359.out⟩, ⟨by refine kD ?_; refine blk_put (cs := #[u361000, .slice none 0 0]) ?_ 0 _ rfl; refine kD ?_; exact BK360.out⟩, ⟨by refine kD ?_; refine blk_far ?_ NB361_360.out _; refine kD ?_; exact BK361.out⟩, ⟨kZ HB⟩⟩
   subst c26
   have H1 : (some (([] : List (S40)), ([] : List (S59)), ([] : List (S40)), ([] : List (S59)))) = some (r1, r2, r3, r4) := by rw [if_pos rfl] at H; exact H
   clear H
   have H := H1
   clear H1
   simp only [Option.some.injEq, Prod.mk.injEq] at H
   obtain ⟨rfl, rfl, rfl, rfl⟩ := H
   try go_wp2
   have n0_ := am_ (blk_drew BK357.out)
   have n1_ := am_ (blk_drew BK358.out)
   have n2_ := am_ (blk_drew BK359.out)
   have n3_ := am_ (blk_drew BK360.out)
   have n4_ := am_ (blk_drew BK361.out)
   have n5_ := am_ (below_drew1 HB.out)
   clear BK357
   clear BK358
   clear BK359
   clear BK360
   clear BK361
   clear HB
   have BK357 := n0_
   have BK358 := n1_
   have BK359 := n2_
   have BK360 := n3_
   have BK361 := n4_
   have HB := n5_
   clear n0_ n1_ n2_ n3_ n4_ n5_
   refine start_ (n := 4) (S := fun w' => w'.cell? ⟨gb360, 0, none⟩ = some (.slice none 0 0) ∧ w'.cell? ⟨gb360, 1, none⟩ = some (.slice none 0 0) ∧ w'.cell? ⟨gb361, 0, none⟩ = some (.slice none 0 0) ∧ w'.cell? ⟨gb361, 1, none⟩ = some (.slice none 0 0)) (ds := []) #[false, false, false, false] (by kernel_rfl) rfl rfl ⟨(blk_cell BK360.out 0).trans rfl, (blk_cell BK360.out 1).trans rfl, (blk_cell BK361.out 0).trans rfl, (blk_cell BK361.out 1).trans rfl⟩ (fun hHeld => ?_)
   generalize wc.drew = w27 at BK357 BK358 BK359 BK360 BK361 HB hHeld ⊢
   refine take_ (i := 0) (N := some 22) (v := ?_) (a' := ?_) #[true, false, false, false] rfl rfl (by kernel_rfl) (fun _ _ _ h => h) (Or.inl ⟨by rfl, ?_⟩) hHeld ?_ ?_
   rotate_left
   ·rintro w' ⟨s0, s1, s2, s3⟩
    go_simp
    with_reducible rfl
   rotate_left
   ·simp only [Act.put, List.setIfInBounds_toArray, List.set_cons_zero, List.set_cons_succ, i64_w, i32_w]
    rfl
   refine take_ (i := 1) (N := some 23) (v := ?_) (a' := ?_) #[true, true, false, false] rfl rfl (by kernel_rfl) (fun _ _ _ h => h) (Or.inl ⟨by rfl, ?_⟩) hHeld ?_ ?_
   rotate_left
   ·rintro w' ⟨s0, s1, s2, s3⟩
    go_simp
    with_reducible rfl
   rotate_left
   ·simp only [Act.put, List.setIfInBounds_toArray, List.set_cons_zero, List.set_cons_succ, i64_w, i32_w]
    rfl
   refine one_ (i := 2) (N := none) #[true, true, true, false] rfl rfl (by kernel_rfl) (by decide) (fun K hK => ?_)
   have hs28 : w27.cell? ⟨gb358, 0, none⟩ = some (.slice none 0 0) := (blk_cell BK358.out 0).trans rfl
   have hfs28 := blk_frozen BK358.out 0
   have hns28_0 := NB357_358.out
   have hns28_2 := NB359_358.out
   have hns28_3 := NB360_358.out
   have hns28_4 := NB361_358.out
   have hms28_0 := NB358_357.out
   have hms28_2 := NB358_359.out
   have hms28_3 := NB358_360.out
   have hms28_4 := NB358_361.out
   have hs29 : w27.cell? ⟨gb358, 1, none⟩ = some (.slice none 0 0) := (blk_cell BK358.out 1).trans rfl
   have hfs29 := blk_frozen BK358.out 1
   have hns29_0 := NB357_358.out
   have hns29_2 := NB359_358.out
   have hns29_3 := NB360_358.out
   have hns29_4 := NB361_358.out
   have hms29_0 := NB358_357.out
   have hms29_2 := NB358_359.out
   have hms29_3 := NB358_360.out
   have hms29_4 := NB358_361.out
   refine skip_ (w1 := ?_) (by rfl) rfl ?_ ?_
   rotate_left
   ·go_simp
    rfl
   refine hK.out _ _ ⟨((cell_far (p := ⟨gb358, _, none⟩) NB360_358.out _).trans (((cell_far (p := ⟨gb358, _, none⟩) NB360_358.out _).trans (hHeld.1)))), ((cell_far (p := ⟨gb358, _, none⟩) NB360_358.out _).trans (((cell_far (p := ⟨gb358, _, none⟩) NB360_358.out _).trans (hHeld.2.1)))), ((cell_far (p := ⟨gb358, _, none⟩) NB361_358.out _).trans (((cell_far (p := ⟨gb358, _, none⟩) NB361_358.out _).trans (hHeld.2.2.1)))), ((cell_far (p := ⟨gb358, _, none⟩) NB361_358.out _).trans (((cell_far (p := ⟨gb358, _, none⟩) NB361_358.out _).trans (hHeld.2.2.2))))⟩ (fun hHeld => ?_)
   clear hK K
   refine one_ (i := 3) (N := none) #[true, true, true, true] rfl rfl (by kernel_rfl) (by decide) (fun K hK => ?_)
   have hs30 : w27.cell? ⟨gb359, 0, none⟩ = some (.slice none 0 0) := (blk_cell BK359.out 0).trans rfl
   have hfs30 := blk_frozen BK359.out 0
   have hns30_0 := NB357_359.out
   have hns30_1 := NB358_359.out
   have hns30_3 := NB360_359.out
   have hns30_4 := NB361_359.out
   have hms30_0 := NB359_357.out
   have hms30_1 := NB359_358.out
   have hms30_3 := NB359_360.out
   have hms30_4 := NB359_361.out
   have hs31 : w27.cell? ⟨gb359, 1, none⟩ = some (.slice none 0 0) := (blk_cell BK359.out 1).trans rfl
   have hfs31 := blk_frozen BK359.out 1
   have hns31_0 := NB357_359.out
   have hns31_1 := NB358_359.out
   have hns31_3 := NB360_359.out
   have hns31_4 := NB361_359.out
   have hms31_0 := NB359_357.out
   have hms31_1 := NB359_358.out
   have hms31_3 := NB359_360.out
   have hms31_4 := NB359_361.out
   refine skip_ (w1 := ?_) (by rfl) rfl ?_ ?_
   rotate_left
   ·go_simp
    rfl
   refine hK.out _ _ ⟨((cell_far (p := ⟨gb359, _, none⟩) NB360_359.out _).trans (((cell_far (p := ⟨gb359, _, none⟩) NB360_359.out _).trans (hHeld.1)))), ((cell_far (p := ⟨gb359, _, none⟩) NB360_359.out _).trans (((cell_far (p := ⟨gb359, _, none⟩) NB360_359.out _).trans (hHeld.2.1)))), ((cell_far (p := ⟨gb359, _, none⟩) NB361_359.out _).trans (((cell_far (p := ⟨gb359, _, none⟩) NB361_359.out _).trans (hHeld.2.2.1)))), ((cell_far (p := ⟨gb359, _, none⟩) NB361_359.out _).trans (((cell_far (p := ⟨gb359, _, none⟩) NB361_359.out _).trans (hHeld.2.2.2))))⟩ (fun hHeld => ?_)
   clear hK K
   refine done_ (by kernel_rfl) ?_
   try go_wp2
   refine bodyPost_ret (results_cc rfl _ _ gb358 gb359 34 34 #[.slice none 0 0, .slice none 0 0] #[.slice none 0 0, .slice none 0 0] (0, 0) (0, 0) _ _ rfl (by refine kD ?_; refine blk_far ?_ NB358_359.out _; refine kD ?_; refine blk_far ?_ NB358_359.out _; refine kD ?_; refine blk_put (cs := #[.slice none 0 0, .slice none 0 0]) ?_ 1 _ rfl; refine kD ?_; refine blk_put (cs := #[.slice none 0 0, .slice none 0 0]) ?_ 0 _ rfl; refine kD ?_; exact BK358.out) Try.underlying34 rfl (by kernel_rfl) rfl (by refine kD ?_; refine blk_put (cs := #[.slice none 0 0, .slice none 0 0]) ?_ 1 _ rfl; refine kD ?_; refine blk_put (cs := #[.slice none 0 0, .slice none 0 0]) ?_ 0 _ rfl; refine kD ?_; refine blk_far ?_ NB359_358.out _; refine kD ?_; refine blk_far ?_ NB359_358.out _; refine kD ?_; exact BK359.out) Try.underlying34 rfl (by kernel_rfl)) rfl ?_
   exact ⟨_, _, _, _, e2_, nl_, nl_, nl_, nl_, kZ HB⟩
end Go.Proofs.Ytinjajpnbbknnaa.Q
