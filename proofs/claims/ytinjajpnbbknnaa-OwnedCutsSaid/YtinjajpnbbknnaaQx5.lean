-- Written by a program of this session (xprint) out of the translation; over contracts proved by hand.
import Derived.Test.YtinjajpnbbknnaaQx0
import Derived.Test.YtinjajpnbbknnaaSq
import Derived.Test.YtinjajpnbbknnaaQx4
namespace Go.Proofs.Ytinjajpnbbknnaa.Cut2
end Go.Proofs.Ytinjajpnbbknnaa.Cut2
namespace Go.Proofs.Ytinjajpnbbknnaa.RPut
end Go.Proofs.Ytinjajpnbbknnaa.RPut
namespace Go.Proofs.Ytinjajpnbbknnaa.Split
end Go.Proofs.Ytinjajpnbbknnaa.Split
namespace Go.Proofs.Ytinjajpnbbknnaa.Q
open Go.Proofs.Ytinjajpnbbknnaa.Cut2 Go.Proofs.Ytinjajpnbbknnaa.RPut Go.Proofs.Ytinjajpnbbknnaa.Split
set_option linter.unnecessarySimpa false
open Go.RowKit Go.Proofs.YtinjajpnbbknnaaW.PrintWords Go.Proofs.YtinjajpnbbknnaaW.PrintLast Go.Proofs.YtinjajpnbbknnaaW.PrintMore
attribute [local go_sem] max2_int min2_int max_two min_two max_three min_three max_four min_four   -- for this text's walks alone
set_option linter.unusedVariables false
set_option linter.unusedSimpArgs false

abbrev x5tr39_0 : Array Bool := trr 39 0
abbrev x5tr39_1 : Array Bool := trr 39 1
abbrev x5tr39_10 : Array Bool := trr 39 10
abbrev x5tr39_11 : Array Bool := trr 39 11
abbrev x5tr39_12 : Array Bool := trr 39 12
abbrev x5tr39_13 : Array Bool := trr 39 13
abbrev x5tr39_14 : Array Bool := trr 39 14
abbrev x5tr39_15 : Array Bool := trr 39 15
abbrev x5tr39_16 : Array Bool := trr 39 16
abbrev x5tr39_17 : Array Bool := trr 39 17
abbrev x5tr39_18 : Array Bool := trr 39 18
abbrev x5tr39_19 : Array Bool := trr 39 19
abbrev x5tr39_2 : Array Bool := trr 39 2
abbrev x5tr39_20 : Array Bool := trr 39 20
abbrev x5tr39_21 : Array Bool := trr 39 21
abbrev x5tr39_22 : Array Bool := trr 39 22
abbrev x5tr39_23 : Array Bool := trr 39 23
abbrev x5tr39_24 : Array Bool := trr 39 24
abbrev x5tr39_25 : Array Bool := trr 39 25
abbrev x5tr39_26 : Array Bool := trr 39 26
abbrev x5tr39_27 : Array Bool := trr 39 27
abbrev x5tr39_28 : Array Bool := trr 39 28
abbrev x5tr39_29 : Array Bool := trr 39 29
abbrev x5tr39_3 : Array Bool := trr 39 3
abbrev x5tr39_30 : Array Bool := trr 39 30
abbrev x5tr39_31 : Array Bool := trr 39 31
abbrev x5tr39_32 : Array Bool := trr 39 32
abbrev x5tr39_33 : Array Bool := trr 39 33
abbrev x5tr39_34 : Array Bool := trr 39 34
abbrev x5tr39_35 : Array Bool := trr 39 35
abbrev x5tr39_36 : Array Bool := trr 39 36
abbrev x5tr39_37 : Array Bool := trr 39 37
abbrev x5tr39_38 : Array Bool := trr 39 38
abbrev x5tr39_39 : Array Bool := trr 39 39
abbrev x5tr39_4 : Array Bool := trr 39 4
abbrev x5tr39_5 : Array Bool := trr 39 5
abbrev x5tr39_6 : Array Bool := trr 39 6
abbrev x5tr39_7 : Array Bool := trr 39 7
abbrev x5tr39_8 : Array Bool := trr 39 8
abbrev x5tr39_9 : Array Bool := trr 39 9
abbrev x5tr39_m111111111111111111111111111111111010000 : Array Bool := #[true, true, true, true, true, true, true, true, true, true, true, true, true, true, true, true, true, true, true, true, true, true, true, true, true, true, true, true, true, true, true, true, true, false, true, false, false, false, false]
/-! ### owned_Right: function 17 -/
def owned_Right.l0 : Nat → List (S45) → List (S45) → Int → Int → Option (Bool)
 | 0, _, _, _, _ => none
 | k + 1, x0, x5, x6, x7 => if x7 < x6 then (if 0 ≤ x7 then (if x7 < (x5.length : Int) then ((path_Right.f ((rd_T45 x5 x7).f0)).bind fun t116 => (if t116 = true then (if ((rd_T45 x5 x7).f1) < 0 then (some false) else (if ((rd_T45 x5 x7).f1) > 281474976710656 then (some false) else (if ((rd_T45 x5 x7).f2) < 1 then (some false) else (if ((rd_T45 x5 x7).f2) > 3 then (some false) else (if x7 > 0 then (if 0 ≤ (wrap64 (x7 - 1)) then (if (wrap64 (x7 - 1)) < (x0.length : Int) then (if ((Op.bytesLess (((rd_T45 x0 (wrap64 (x7 - 1))).f0).toList) (((rd_T45 x5 x7).f0).toList)) = true) then (owned_Right.l0 k x0 x5 x6 (wrap64 (x7 + 1))) else (some false)) else (none)) else (none)) else (owned_Right.l0 k x0 x5 x6 (wrap64 (x7 + 1)))))))) else (some false))) else (none)) else (none)) else (some (decide ((x0.length : Int) ≤ 32)))
def owned_Right.f (k : Nat) (l0 : List (S45)) : Option (Bool) := owned_Right.l0 k l0 l0 (l0.length : Int) 0
theorem owned_Right.mono_l : ∀ k, (∀ y0 y1 y2 y3, LeO (owned_Right.l0 k y0 y1 y2 y3) (owned_Right.l0 (k + 1) y0 y1 y2 y3))
 | 0 => fun _ _ _ _ r h => by simp [owned_Right.l0] at h
 | k + 1 => by
  have ih0 := owned_Right.mono_l k
  ·intro y0 y1 y2 y3
   unfold owned_Right.l0
   repeat' first
   | (with_reducible exact ih0 _ _ _ _)
   | (with_reducible exact LeO.refl _)
   | (with_reducible exact LeO.none _)
   | (with_reducible refine LeO.ite ?_ ?_)
   | (with_reducible refine LeO.bind ?_ (fun _ => ?_))
   | exact ih0 _ _ _ _
   | exact LeO.none _
   | refine LeO.ite ?_ ?_
   | refine LeO.bind ?_ (fun _ => ?_)
theorem owned_Right.mono : ∀ a0 k, LeO (owned_Right.f k a0) (owned_Right.f (k + 1) a0) := by
 intro a0 k
 have ih0 := owned_Right.mono_l k
 unfold owned_Right.f
 repeat' first
   | (with_reducible exact ih0 _ _ _ _)
   | (with_reducible exact LeO.refl _)
   | (with_reducible exact LeO.none _)
   | (with_reducible refine LeO.ite ?_ ?_)
   | (with_reducible refine LeO.bind ?_ (fun _ => ?_))
   | exact ih0 _ _ _ _
   | exact LeO.none _
   | refine LeO.ite ?_ ?_
   | refine LeO.bind ?_ (fun _ => ?_)
def owned_Right.T4 : Bool × List (List Nat × List Nat) := (true, [([], []), ([0], [0]), ([1], [1]), ([2], [2]), ([3, 2], [3]), ([4], [4]), ([5, 4], [4, 5]), ([6, 4], [4, 6]), ([4, 7], [4, 7]), ([8, 4], [8]), ([9], [9]), ([10, 9], [9, 10]), ([11, 9], [9, 11]), ([9, 12], [9, 12]), ([13, 9], [13]), ([14], [14]), ([15, 14], [14, 15]), ([16, 14], [14, 16]), ([14, 17], [14, 17]), ([18, 14], [18]), ([19], [19]), ([20, 19], [19, 20]), ([21, 19], [19, 21]), ([19, 22], [19, 22]), ([23, 19], [23]), ([24], [24]), ([25, 24], [24, 25]), ([26, 24, 24], [24, 26]), ([27], [27]), ([27], [27]), ([29, 27], [27, 29]), ([28, 30, 27], [27, 28, 30]), ([31, 27], [27, 31]), ([32, 27], [27, 32]), ([27], [27]), ([34, 27], [27, 34]), ([33, 35, 27], [27, 33, 35]), ([27, 36, 24], [24, 27, 36]), ([24, 37], [24, 37])])
def owned_Right.B4 : List Nat := [0, 1, 3, 7, 15, 31, 63, 127, 255, 511, 1023, 2047, 4095, 8191, 16383, 32767, 65535, 131071, 262143, 524287, 1048575, 2097151, 4194303, 8388607, 16777215, 33554431, 67108863, 134217727, 268435455, 268435455, 805306367, 2147483647, 4294967295, 8589934591, 268435455, 17448304639, 68719476735, 137438953471, 274877906943]
theorem owned_Right.tab4 : rtab .any (opsOf Try.f17 4) = owned_Right.T4 := by kernel_rfl
theorem owned_Right.bits4 : waitsOk owned_Right.T4.2 owned_Right.B4 = true := by kernel_rfl
set_option maxHeartbeats 8000000 in
set_option maxRecDepth 100000 in
theorem owned_Right.calls (k : Nat) (A0 : Option Addr) (c0 : Nat) (l0 : List (S45)) (r : Bool) (w : World) (hr0 : Kd.C k45 w A0 l0.length l0) (hc0 : l0.length ≤ c0) (h : owned_Right.f k l0 = some r) :
  Calls Try.prog 17 #[.slice A0 l0.length c0] w fun e w' => e = .returned (.bool r) ∧ Below w.heap.size w w' := by
 have hu45 := Try.underlying45
 have HR0 := am_ hr0
 have HC0 := am_ hc0
 clear hr0 hc0
 have HB := am_ (Below.refl w.heap.size w)
 have H : (owned_Right.l0 k l0 l0 (l0.length : Int) 0) = some r := h
 clear h
 have H' := am_ H
 clear H
 go_enter Try.func17, Try.ntmps17
 go_wp2
 go_loopg [7] k (fun kq v7 w' => ∃ (x7_1 : Int), v7 = .int .i64 x7_1 ∧ Aside0 (owned_Right.l0 kq l0 l0 (l0.length : Int) x7_1 = some r) ∧ Aside0 (kq ≤ k) ∧ Aside0 (Below w.heap.size w w'))
 case atStart => exact ⟨(0), e1_, H', ⟨Nat.le_refl _⟩, ⟨kZ HB⟩⟩
 case round =>
  clear H'
  obtain ⟨x7_1, rfl, HA, HK1, HB⟩ := hrel
  cases gk with
  | zero => exact absurd HA.out (by simp [owned_Right.l0])
  | succ k1 =>
   have H := HA.out
   clear HA
   simp only [owned_Right.l0] at H
   by_cases c2 : x7_1 < (l0.length : Int)
   rotate_left
   ·rw [if_neg c2] at H
    have c2b0 : decide (x7_1 < (l0.length : Int)) = false := decide_eq_false c2
    clear c2
    obtain rfl := Option.some.inj H
    go_wp2
    go_ret
    exact ⟨e2_, kZ HB⟩

   rw [if_pos c2] at H
   have c2b0 : decide (x7_1 < (l0.length : Int)) = true := decide_eq_true c2
   clear c2
   by_cases c3 : 0 ≤ x7_1
   rotate_left
   ·rw [if_neg c3] at H
    exact absurd H (by simp)
   rw [if_pos c3] at H
   have c3b0 : decide (0 ≤ x7_1) = true := decide_eq_true c3
   clear c3
   by_cases c4 : x7_1 < (l0.length : Int)
   rotate_left
   ·rw [if_neg c4] at H
    exact absurd H (by simp)
   rw [if_pos c4] at H
   have c4b0 : decide (x7_1 < (l0.length : Int)) = true := decide_eq_true c4
   clear c4
   replace H := Option.bind_eq_some_iff.mp H
   obtain ⟨t116, A50, H⟩ := H
   replace H : (if t116 = true then (if ((rd_T45 l0 x7_1).f1) < 0 then (some false) else (if ((rd_T45 l0 x7_1).f1) > 281474976710656 then (some false) else (if ((rd_T45 l0 x7_1).f2) < 1 then (some false) else (if ((rd_T45 l0 x7_1).f2) > 3 then (some false) else (if x7_1 > 0 then (if 0 ≤ (wrap64 (x7_1 - 1)) then (if (wrap64 (x7_1 - 1)) < (l0.length : Int) then (if ((Op.bytesLess (((rd_T45 l0 (wrap64 (x7_1 - 1))).f0).toList) (((rd_T45 l0 x7_1).f0).toList)) = true) then (owned_Right.l0 k1 l0 l0 (l0.length : Int) (wrap64 (x7_1 + 1))) else (some false)) else (none)) else (none)) else (owned_Right.l0 k1 l0 l0 (l0.length : Int) (wrap64 (x7_1 + 1)))))))) else (some false)) = some r := H
   have A5 := am_ A50
   clear A50
   by_cases c6 : t116 = true
   rotate_left
   ·replace c6 := Bool.eq_false_iff.mpr c6
    subst c6
    have H1 : (some false) = some r := by rw [if_neg (show ¬ (false = true) by decide)] at H; exact H
    clear H
    have H := H1
    clear H1
    obtain rfl := Option.some.inj H
    have p114 : 0 ≤ (x7_1 : Int) := od_
    have q114 : x7_1 < (l0.length : Int) := od_
    obtain ⟨ad114, e114, hx114_0, hx114_1, hx114_2⟩ := at_T45 HR0.out x7_1 p114 q114
    cases e114
    replace hx114_0 := pw_cell_below HB.out hx114_0
    replace hx114_1 := pw_cell_below HB.out hx114_1
    replace hx114_2 := pw_cell_below HB.out hx114_2
    replace p114 := eq_true p114
    replace q114 := eq_true q114
    try go_wp2_with (first | ((with_reducible refine gate_dst (N := 4) rfl ?_); refine box_event ?hg (N := 4) ?hd (cs := #[.string (⟨#[]⟩ : ByteArray), .int .i64 0, .int .i64 0]) (t := 45) ?hr ?_; (case hd => rfl); (case hg => rfl); (case hr => first | (go_simp; done) | (go_simp; rfl)); intro gb115 hg w51 hbox hb; have n0_ := am_ (below_step (kZ HB) hb); have n1_ := am_ (hbox); have n2_ := am_ (gW hg (kZ HB)); have n3_ := am_ (gW hg (kZ HB)); clear HB; have HB := n0_; have BK115 := n1_; have GW115 := n2_; have GE115 := n3_; clear n0_ n1_ n2_ n3_; clear hb hbox hg; have hcz52_0 : w51.cell? ⟨gb115, 0, none⟩ = some (.string (⟨#[]⟩ : ByteArray)) := (blk_cell BK115.out 0).trans rfl; have hcz52_1 : w51.cell? ⟨gb115, 1, none⟩ = some (.int .i64 0) := (blk_cell BK115.out 1).trans rfl; have hcz52_2 : w51.cell? ⟨gb115, 2, none⟩ = some (.int .i64 0) := (blk_cell BK115.out 2).trans rfl; have hfz52_0 := blk_frozen BK115.out 0; have hfz52_1 := blk_frozen BK115.out 1; have hfz52_2 := blk_frozen BK115.out 2))
    have n0_ : Aside0 ((((w51.setCell ⟨gb115, 0, none⟩ (.string ((rd_T45 l0 x7_1).f0))).setCell ⟨gb115, 1, none⟩ (.int .i64 ((rd_T45 l0 x7_1).f1))).setCell ⟨gb115, 2, none⟩ (.int .i64 ((rd_T45 l0 x7_1).f2))).heap[gb115]? = some (.cells #[.string ((rd_T45 l0 x7_1).f0), .int .i64 ((rd_T45 l0 x7_1).f1), .int .i64 ((rd_T45 l0 x7_1).f2)] 45 (0, 0))) := ⟨by refine kD ?_; refine blk_put (cs := #[.string ((rd_T45 l0 x7_1).f0), .int .i64 ((rd_T45 l0 x7_1).f1), .int .i64 0]) ?_ 2 _ rfl; refine kD ?_; refine blk_put (cs := #[.string ((rd_T45 l0 x7_1).f0), .int .i64 0, .int .i64 0]) ?_ 1 _ rfl; refine kD ?_; refine blk_put (cs := #[.string (⟨#[]⟩ : ByteArray), .int .i64 0, .int .i64 0]) ?_ 0 _ rfl; refine kD ?_; exact BK115.out⟩
    have n1_ : Aside0 (Below w.heap.size w (((w51.setCell ⟨gb115, 0, none⟩ (.string ((rd_T45 l0 x7_1).f0))).setCell ⟨gb115, 1, none⟩ (.int .i64 ((rd_T45 l0 x7_1).f1))).setCell ⟨gb115, 2, none⟩ (.int .i64 ((rd_T45 l0 x7_1).f2)))) := ⟨kZ HB⟩
    (try clear BK115)
    (try clear HB)
    generalize (((w51.setCell ⟨gb115, 0, none⟩ (.string ((rd_T45 l0 x7_1).f0))).setCell ⟨gb115, 1, none⟩ (.int .i64 ((rd_T45 l0 x7_1).f1))).setCell ⟨gb115, 2, none⟩ (.int .i64 ((rd_T45 l0 x7_1).f2))) = w53 at n0_ n1_ ⊢
    have BK115 := n0_
    have HB := n1_
    clear n0_ n1_
    have n0_ := am_ (blk_drew BK115.out)
    have n1_ := am_ (below_drew1 HB.out)
    clear BK115
    clear HB
    have BK115 := n0_
    have HB := n1_
    clear n0_ n1_
    refine start_ (n := 39) (S := fun w' => w'.cell? ⟨gb115, 0, none⟩ = some (.string ((rd_T45 l0 x7_1).f0)) ∧ w'.cell? ⟨gb115, 1, none⟩ = some (.int .i64 ((rd_T45 l0 x7_1).f1)) ∧ w'.cell? ⟨gb115, 2, none⟩ = some (.int .i64 ((rd_T45 l0 x7_1).f2))) (ds := []) x5tr39_0 (by kernel_rfl) rfl rfl ⟨(blk_cell BK115.out 0).trans rfl, (blk_cell BK115.out 1).trans rfl, (blk_cell BK115.out 2).trans rfl⟩ (fun hHeld => ?_); refine with_tabW owned_Right.tab4 owned_Right.bits4 (fun HT_ HW_ => ?_)
    generalize w53.drew = w54 at BK115 HB hHeld ⊢
    refine pA_ 0 12 x5tr39_1 HT_.out ?_
    refine tA_ 1 13 x5tr39_2 HT_.out HW_.out hHeld ?_
    refine one_ (i := 2) (N := some 14) x5tr39_3 rfl rfl (one_of HT_.out (by kernel_rfl)) (by decide) (fun K hK => ?_)
    refine goes_ Try.func35 (by kernel_rfl) rfl #[.string ((rd_T45 l0 x7_1).f0)] (by rfl) rfl rfl m_ ?_
    with_reducible refine (path_Right.calls ((rd_T45 l0 x7_1).f0) false _ A5.out).mono ?_
    rintro e w55 ⟨rfl, hb⟩
    refine ⟨_, rfl, ?_⟩
    have n0_ := am_ (blk_below (kB BK115) hb)
    have n1_ := am_ (below_step (kZ HB) hb)
    clear BK115
    clear HB
    have BK115 := n0_
    have HB := n1_
    clear n0_ n1_
    (try clear hb)
    (try clear hb2)
    (try clear hk)
    (try clear hi)
    refine hK.out _ _ ⟨(blk_cell BK115.out 0).trans rfl, (blk_cell BK115.out 1).trans rfl, (blk_cell BK115.out 2).trans rfl⟩ (fun hHeld => ?_)
    clear hK K
    refine norm_ (a' := ?_) ?_ ?_
    rotate_left
    ·show Act.put _ (some 14) _ = _
     simp only [Act.put, List.setIfInBounds_toArray, List.set_cons_zero, List.set_cons_succ, i64_w, i32_w]
     rfl
    refine pA_ 3 15 x5tr39_4 HT_.out ?_
    refine pA_ 4 16 x5tr39_5 HT_.out ?_
    refine pU_ 5 17 x5tr39_6 HT_.out ?_
    refine pU_ 6 18 x5tr39_7 HT_.out ?_
    refine pU_ 7 19 x5tr39_8 HT_.out ?_
    refine pA_ 8 20 x5tr39_9 HT_.out ?_
    refine pA_ 9 21 x5tr39_10 HT_.out ?_
    refine pU_ 10 22 x5tr39_11 HT_.out ?_
    refine pU_ 11 23 x5tr39_12 HT_.out ?_
    refine pU_ 12 24 x5tr39_13 HT_.out ?_
    refine pA_ 13 25 x5tr39_14 HT_.out ?_
    refine pA_ 14 26 x5tr39_15 HT_.out ?_
    refine pU_ 15 27 x5tr39_16 HT_.out ?_
    refine pU_ 16 28 x5tr39_17 HT_.out ?_
    refine pU_ 17 29 x5tr39_18 HT_.out ?_
    refine pA_ 18 30 x5tr39_19 HT_.out ?_
    refine pA_ 19 31 x5tr39_20 HT_.out ?_
    refine pU_ 20 32 x5tr39_21 HT_.out ?_
    refine pU_ 21 33 x5tr39_22 HT_.out ?_
    refine pU_ 22 34 x5tr39_23 HT_.out ?_
    refine pA_ 23 35 x5tr39_24 HT_.out ?_
    refine pA_ 24 36 x5tr39_25 HT_.out ?_
    refine pU_ 25 37 x5tr39_26 HT_.out ?_
    refine pU_ 26 38 x5tr39_27 HT_.out ?_
    refine pU_ 27 39 x5tr39_28 HT_.out ?_
    refine pU_ 28 40 x5tr39_29 HT_.out ?_
    refine pU_ 29 41 x5tr39_30 HT_.out ?_
    refine pU_ 30 42 x5tr39_31 HT_.out ?_
    refine pU_ 31 43 x5tr39_32 HT_.out ?_
    refine pU_ 32 44 x5tr39_33 HT_.out ?_
    refine pU_ 33 45 x5tr39_34 HT_.out ?_
    refine pU_ 34 46 x5tr39_35 HT_.out ?_
    refine pU_ 35 47 x5tr39_36 HT_.out ?_
    refine pU_ 36 48 x5tr39_37 HT_.out ?_
    refine pU_ 37 49 x5tr39_38 HT_.out ?_
    refine pA_ 38 50 x5tr39_39 HT_.out ?_
    refine done_ (done_of HT_.out (by kernel_rfl)) ?_
    try go_wp2
    go_ret
    exact ⟨e2_, kZ HB⟩
   subst c6
   have H1 : (if ((rd_T45 l0 x7_1).f1) < 0 then (some false) else (if ((rd_T45 l0 x7_1).f1) > 281474976710656 then (some false) else (if ((rd_T45 l0 x7_1).f2) < 1 then (some false) else (if ((rd_T45 l0 x7_1).f2) > 3 then (some false) else (if x7_1 > 0 then (if 0 ≤ (wrap64 (x7_1 - 1)) then (if (wrap64 (x7_1 - 1)) < (l0.length : Int) then (if ((Op.bytesLess (((rd_T45 l0 (wrap64 (x7_1 - 1))).f0).toList) (((rd_T45 l0 x7_1).f0).toList)) = true) then (owned_Right.l0 k1 l0 l0 (l0.length : Int) (wrap64 (x7_1 + 1))) else (some false)) else (none)) else (none)) else (owned_Right.l0 k1 l0 l0 (l0.length : Int) (wrap64 (x7_1 + 1)))))))) = some r := by rw [if_pos rfl] at H; exact H
   clear H
   have H := H1
   clear H1
   by_cases c7 : ((rd_T45 l0 x7_1).f1) < 0
   rotate_left
   ·rw [if_neg c7] at H
    have c7b0 : decide (((rd_T45 l0 x7_1).f1) < 0) = false := decide_eq_false c7
    clear c7
    by_cases c13 : ((rd_T45 l0 x7_1).f1) > 281474976710656
    rotate_left
    ·rw [if_neg c13] at H
     have c13b0 : decide (281474976710656 < ((rd_T45 l0 x7_1).f1)) = false := decide_eq_false c13
     clear c13
     by_cases c19 : ((rd_T45 l0 x7_1).f2) < 1
     rotate_left
     ·rw [if_neg c19] at H
      have c19b0 : decide (((rd_T45 l0 x7_1).f2) < 1) = false := decide_eq_false c19
      clear c19
      by_cases c25 : ((rd_T45 l0 x7_1).f2) > 3
      rotate_left
      ·rw [if_neg c25] at H
       have c25b0 : decide (3 < ((rd_T45 l0 x7_1).f2)) = false := decide_eq_false c25
       clear c25
       by_cases c31 : x7_1 > 0
       rotate_left
       ·rw [if_neg c31] at H
        have c31b0 : decide (0 < x7_1) = false := decide_eq_false c31
        clear c31
        have H' := am_ H
        clear H
        have p114 : 0 ≤ (x7_1 : Int) := od_
        have q114 : x7_1 < (l0.length : Int) := od_
        obtain ⟨ad114, e114, hx114_0, hx114_1, hx114_2⟩ := at_T45 HR0.out x7_1 p114 q114
        cases e114
        replace hx114_0 := pw_cell_below HB.out hx114_0
        replace hx114_1 := pw_cell_below HB.out hx114_1
        replace hx114_2 := pw_cell_below HB.out hx114_2
        replace p114 := eq_true p114
        replace q114 := eq_true q114
        try go_wp2_with (first | ((with_reducible refine gate_dst (N := 4) rfl ?_); refine box_event ?hg (N := 4) ?hd (cs := #[.string (⟨#[]⟩ : ByteArray), .int .i64 0, .int .i64 0]) (t := 45) ?hr ?_; (case hd => rfl); (case hg => rfl); (case hr => first | (go_simp; done) | (go_simp; rfl)); intro gb115 hg w46 hbox hb; have n0_ := am_ (below_step (kZ HB) hb); have n1_ := am_ (hbox); have n2_ := am_ (gW hg (kZ HB)); have n3_ := am_ (gW hg (kZ HB)); clear HB; have HB := n0_; have BK115 := n1_; have GW115 := n2_; have GE115 := n3_; clear n0_ n1_ n2_ n3_; clear hb hbox hg; have hcz47_0 : w46.cell? ⟨gb115, 0, none⟩ = some (.string (⟨#[]⟩ : ByteArray)) := (blk_cell BK115.out 0).trans rfl; have hcz47_1 : w46.cell? ⟨gb115, 1, none⟩ = some (.int .i64 0) := (blk_cell BK115.out 1).trans rfl; have hcz47_2 : w46.cell? ⟨gb115, 2, none⟩ = some (.int .i64 0) := (blk_cell BK115.out 2).trans rfl; have hfz47_0 := blk_frozen BK115.out 0; have hfz47_1 := blk_frozen BK115.out 1; have hfz47_2 := blk_frozen BK115.out 2))
        have n0_ : Aside0 ((((w46.setCell ⟨gb115, 0, none⟩ (.string ((rd_T45 l0 x7_1).f0))).setCell ⟨gb115, 1, none⟩ (.int .i64 ((rd_T45 l0 x7_1).f1))).setCell ⟨gb115, 2, none⟩ (.int .i64 ((rd_T45 l0 x7_1).f2))).heap[gb115]? = some (.cells #[.string ((rd_T45 l0 x7_1).f0), .int .i64 ((rd_T45 l0 x7_1).f1), .int .i64 ((rd_T45 l0 x7_1).f2)] 45 (0, 0))) := ⟨by refine kD ?_; refine blk_put (cs := #[.string ((rd_T45 l0 x7_1).f0), .int .i64 ((rd_T45 l0 x7_1).f1), .int .i64 0]) ?_ 2 _ rfl; refine kD ?_; refine blk_put (cs := #[.string ((rd_T45 l0 x7_1).f0), .int .i64 0, .int .i64 0]) ?_ 1 _ rfl; refine kD ?_; refine blk_put (cs := #[.string (⟨#[]⟩ : ByteArray), .int .i64 0, .int .i64 0]) ?_ 0 _ rfl; refine kD ?_; exact BK115.out⟩
        have n1_ : Aside0 (Below w.heap.size w (((w46.setCell ⟨gb115, 0, none⟩ (.string ((rd_T45 l0 x7_1).f0))).setCell ⟨gb115, 1, none⟩ (.int .i64 ((rd_T45 l0 x7_1).f1))).setCell ⟨gb115, 2, none⟩ (.int .i64 ((rd_T45 l0 x7_1).f2)))) := ⟨kZ HB⟩
        (try clear BK115)
        (try clear HB)
        generalize (((w46.setCell ⟨gb115, 0, none⟩ (.string ((rd_T45 l0 x7_1).f0))).setCell ⟨gb115, 1, none⟩ (.int .i64 ((rd_T45 l0 x7_1).f1))).setCell ⟨gb115, 2, none⟩ (.int .i64 ((rd_T45 l0 x7_1).f2))) = w48 at n0_ n1_ ⊢
        have BK115 := n0_
        have HB := n1_
        clear n0_ n1_
        have n0_ := am_ (blk_drew BK115.out)
        have n1_ := am_ (below_drew1 HB.out)
        clear BK115
        clear HB
        have BK115 := n0_
        have HB := n1_
        clear n0_ n1_
        refine start_ (n := 39) (S := fun w' => w'.cell? ⟨gb115, 0, none⟩ = some (.string ((rd_T45 l0 x7_1).f0)) ∧ w'.cell? ⟨gb115, 1, none⟩ = some (.int .i64 ((rd_T45 l0 x7_1).f1)) ∧ w'.cell? ⟨gb115, 2, none⟩ = some (.int .i64 ((rd_T45 l0 x7_1).f2))) (ds := []) x5tr39_0 (by kernel_rfl) rfl rfl ⟨(blk_cell BK115.out 0).trans rfl, (blk_cell BK115.out 1).trans rfl, (blk_cell BK115.out 2).trans rfl⟩ (fun hHeld => ?_); refine with_tabW owned_Right.tab4 owned_Right.bits4 (fun HT_ HW_ => ?_)
        generalize w48.drew = w49 at BK115 HB hHeld ⊢
        refine pA_ 0 12 x5tr39_1 HT_.out ?_
        refine tA_ 1 13 x5tr39_2 HT_.out HW_.out hHeld ?_
        refine one_ (i := 2) (N := some 14) x5tr39_3 rfl rfl (one_of HT_.out (by kernel_rfl)) (by decide) (fun K hK => ?_)
        refine goes_ Try.func35 (by kernel_rfl) rfl #[.string ((rd_T45 l0 x7_1).f0)] (by rfl) rfl rfl m_ ?_
        with_reducible refine (path_Right.calls ((rd_T45 l0 x7_1).f0) true _ A5.out).mono ?_
        rintro e w50 ⟨rfl, hb⟩
        refine ⟨_, rfl, ?_⟩
        have n0_ := am_ (blk_below (kB BK115) hb)
        have n1_ := am_ (below_step (kZ HB) hb)
        clear BK115
        clear HB
        have BK115 := n0_
        have HB := n1_
        clear n0_ n1_
        (try clear hb)
        (try clear hb2)
        (try clear hk)
        (try clear hi)
        refine hK.out _ _ ⟨(blk_cell BK115.out 0).trans rfl, (blk_cell BK115.out 1).trans rfl, (blk_cell BK115.out 2).trans rfl⟩ (fun hHeld => ?_)
        clear hK K
        refine norm_ (a' := ?_) ?_ ?_
        rotate_left
        ·show Act.put _ (some 14) _ = _
         simp only [Act.put, List.setIfInBounds_toArray, List.set_cons_zero, List.set_cons_succ, i64_w, i32_w]
         rfl
        refine pA_ 3 15 x5tr39_4 HT_.out ?_
        refine pA_ 4 16 x5tr39_5 HT_.out ?_
        refine pA_ 5 17 x5tr39_6 HT_.out ?_
        refine tA_ 6 18 x5tr39_7 HT_.out HW_.out hHeld ?_
        refine pA_ 7 19 x5tr39_8 HT_.out ?_
        refine pA_ 8 20 x5tr39_9 HT_.out ?_
        refine pA_ 9 21 x5tr39_10 HT_.out ?_
        refine pA_ 10 22 x5tr39_11 HT_.out ?_
        refine tA_ 11 23 x5tr39_12 HT_.out HW_.out hHeld ?_
        refine pA_ 12 24 x5tr39_13 HT_.out ?_
        refine pA_ 13 25 x5tr39_14 HT_.out ?_
        refine pA_ 14 26 x5tr39_15 HT_.out ?_
        refine pA_ 15 27 x5tr39_16 HT_.out ?_
        refine tA_ 16 28 x5tr39_17 HT_.out HW_.out hHeld ?_
        refine pA_ 17 29 x5tr39_18 HT_.out ?_
        refine pA_ 18 30 x5tr39_19 HT_.out ?_
        refine pA_ 19 31 x5tr39_20 HT_.out ?_
        refine pA_ 20 32 x5tr39_21 HT_.out ?_
        refine tA_ 21 33 x5tr39_22 HT_.out HW_.out hHeld ?_
        refine pA_ 22 34 x5tr39_23 HT_.out ?_
        refine pA_ 23 35 x5tr39_24 HT_.out ?_
        refine pA_ 24 36 x5tr39_25 HT_.out ?_
        refine pA_ 25 37 x5tr39_26 HT_.out ?_
        refine pA_ 26 38 x5tr39_27 HT_.out ?_
        refine pA_ 27 39 x5tr39_28 HT_.out ?_
        refine pU_ 28 40 x5tr39_29 HT_.out ?_
        refine pU_ 29 41 x5tr39_30 HT_.out ?_
        refine pU_ 30 42 x5tr39_31 HT_.out ?_
        refine pU_ 31 43 x5tr39_32 HT_.out ?_
        refine pU_ 32 44 x5tr39_33 HT_.out ?_
        refine pU_ 33 45 x5tr39_34 HT_.out ?_
        refine pU_ 34 46 x5tr39_35 HT_.out ?_
        refine pU_ 35 47 x5tr39_36 HT_.out ?_
        refine pU_ 36 48 x5tr39_37 HT_.out ?_
        refine pA_ 37 49 x5tr39_38 HT_.out ?_
        refine pA_ 38 50 x5tr39_39 HT_.out ?_
        refine done_ (done_of HT_.out (by kernel_rfl)) ?_
        try go_wp2
        go_roundg k1
        case measure => have := HK1.out; omega
        case rel => exact ⟨(wrap64 (x7_1 + 1)), e1_, H', ⟨by have := HK1.out; omega⟩, ⟨kZ HB⟩⟩
       rw [if_pos c31] at H
       have c31b0 : decide (0 < x7_1) = true := decide_eq_true c31
       clear c31
       obtain ⟨ji32, hji32⟩ : ∃ j_ : Int, (wrap64 (x7_1 - 1)) = j_ := ⟨_, rfl⟩
       replace H : (if 0 ≤ (ji32) then (if (ji32) < (l0.length : Int) then (if ((Op.bytesLess (((rd_T45 l0 (ji32)).f0).toList) (((rd_T45 l0 x7_1).f0).toList)) = true) then (owned_Right.l0 k1 l0 l0 (l0.length : Int) (wrap64 (x7_1 + 1))) else (some false)) else (none)) else (none)) = some r := by first | (rw [hji32] at H; exact H) | (simp only [hji32] at H ⊢; exact H)
       (try rw [hji32] at A5)
       have hji32w : (IntKind.i64.wrap (x7_1 - 1)) = ji32 := (i64_w _).trans hji32
       by_cases c33 : 0 ≤ (ji32)
       rotate_left
       ·rw [if_neg c33] at H
        exact absurd H (by simp)
       rw [if_pos c33] at H
       have c33b0 : decide (0 ≤ (ji32)) = true := decide_eq_true c33
       clear c33
       by_cases c34 : (ji32) < (l0.length : Int)
       rotate_left
       ·rw [if_neg c34] at H
        exact absurd H (by simp)
       rw [if_pos c34] at H
       have c34b0 : decide ((ji32) < (l0.length : Int)) = true := decide_eq_true c34
       clear c34
       by_cases c35 : ((Op.bytesLess (((rd_T45 l0 (ji32)).f0).toList) (((rd_T45 l0 x7_1).f0).toList)) = true)
       rotate_left
       ·rw [if_neg c35] at H
        have c35b0 : (Op.bytesLess (((rd_T45 l0 (ji32)).f0).toList) (((rd_T45 l0 x7_1).f0).toList)) = false := by simpa using c35
        clear c35
        obtain rfl := Option.some.inj H
        have p114 : 0 ≤ (x7_1 : Int) := od_
        have q114 : x7_1 < (l0.length : Int) := od_
        obtain ⟨ad114, e114, hx114_0, hx114_1, hx114_2⟩ := at_T45 HR0.out x7_1 p114 q114
        cases e114
        replace hx114_0 := pw_cell_below HB.out hx114_0
        replace hx114_1 := pw_cell_below HB.out hx114_1
        replace hx114_2 := pw_cell_below HB.out hx114_2
        replace p114 := eq_true p114
        replace q114 := eq_true q114
        try go_wp2_with (first | ((with_reducible refine gate_dst (N := 4) rfl ?_); refine box_event ?hg (N := 4) ?hd (cs := #[.string (⟨#[]⟩ : ByteArray), .int .i64 0, .int .i64 0]) (t := 45) ?hr ?_; (case hd => rfl); (case hg => rfl); (case hr => first | (go_simp; done) | (go_simp; rfl)); intro gb115 hg w41 hbox hb; have n0_ := am_ (below_step (kZ HB) hb); have n1_ := am_ (hbox); have n2_ := am_ (gW hg (kZ HB)); have n3_ := am_ (gW hg (kZ HB)); clear HB; have HB := n0_; have BK115 := n1_; have GW115 := n2_; have GE115 := n3_; clear n0_ n1_ n2_ n3_; clear hb hbox hg; have hcz42_0 : w41.cell? ⟨gb115, 0, none⟩ = some (.string (⟨#[]⟩ : ByteArray)) := (blk_cell BK115.out 0).trans rfl; have hcz42_1 : w41.cell? ⟨gb115, 1, none⟩ = some (.int .i64 0) := (blk_cell BK115.out 1).trans rfl; have hcz42_2 : w41.cell? ⟨gb115, 2, none⟩ = some (.int .i64 0) := (blk_cell BK115.out 2).trans rfl; have hfz42_0 := blk_frozen BK115.out 0; have hfz42_1 := blk_frozen BK115.out 1; have hfz42_2 := blk_frozen BK115.out 2))
        have n0_ : Aside0 ((((w41.setCell ⟨gb115, 0, none⟩ (.string ((rd_T45 l0 x7_1).f0))).setCell ⟨gb115, 1, none⟩ (.int .i64 ((rd_T45 l0 x7_1).f1))).setCell ⟨gb115, 2, none⟩ (.int .i64 ((rd_T45 l0 x7_1).f2))).heap[gb115]? = some (.cells #[.string ((rd_T45 l0 x7_1).f0), .int .i64 ((rd_T45 l0 x7_1).f1), .int .i64 ((rd_T45 l0 x7_1).f2)] 45 (0, 0))) := ⟨by refine kD ?_; refine blk_put (cs := #[.string ((rd_T45 l0 x7_1).f0), .int .i64 ((rd_T45 l0 x7_1).f1), .int .i64 0]) ?_ 2 _ rfl; refine kD ?_; refine blk_put (cs := #[.string ((rd_T45 l0 x7_1).f0), .int .i64 0, .int .i64 0]) ?_ 1 _ rfl; refine kD ?_; refine blk_put (cs := #[.string (⟨#[]⟩ : ByteArray), .int .i64 0, .int .i64 0]) ?_ 0 _ rfl; refine kD ?_; exact BK115.out⟩
        have n1_ : Aside0 (Below w.heap.size w (((w41.setCell ⟨gb115, 0, none⟩ (.string ((rd_T45 l0 x7_1).f0))).setCell ⟨gb115, 1, none⟩ (.int .i64 ((rd_T45 l0 x7_1).f1))).setCell ⟨gb115, 2, none⟩ (.int .i64 ((rd_T45 l0 x7_1).f2)))) := ⟨kZ HB⟩
        (try clear BK115)
        (try clear HB)
        generalize (((w41.setCell ⟨gb115, 0, none⟩ (.string ((rd_T45 l0 x7_1).f0))).setCell ⟨gb115, 1, none⟩ (.int .i64 ((rd_T45 l0 x7_1).f1))).setCell ⟨gb115, 2, none⟩ (.int .i64 ((rd_T45 l0 x7_1).f2))) = w43 at n0_ n1_ ⊢
        have BK115 := n0_
        have HB := n1_
        clear n0_ n1_
        have n0_ := am_ (blk_drew BK115.out)
        have n1_ := am_ (below_drew1 HB.out)
        clear BK115
        clear HB
        have BK115 := n0_
        have HB := n1_
        clear n0_ n1_
        have p117 : 0 ≤ ((ji32) : Int) := od_
        have q117 : (ji32) < (l0.length : Int) := od_
        obtain ⟨ad117, e117, hx117_0, hx117_1, hx117_2⟩ := at_T45 HR0.out (ji32) p117 q117
        have hw117_2 := hx117_2
        have hw117_1 := hx117_1
        have hw117_0 := hx117_0
        obtain rfl : ad114 = ad117 := (by injection e117)
        replace hx117_0 := pw_cell_below HB.out hx117_0
        replace hx117_1 := pw_cell_below HB.out hx117_1
        replace hx117_2 := pw_cell_below HB.out hx117_2
        replace p117 := eq_true p117
        replace q117 := eq_true q117
        refine start_ (n := 39) (S := fun w' => w'.cell? ⟨gb115, 0, none⟩ = some (.string ((rd_T45 l0 x7_1).f0)) ∧ w'.cell? ⟨gb115, 1, none⟩ = some (.int .i64 ((rd_T45 l0 x7_1).f1)) ∧ w'.cell? ⟨gb115, 2, none⟩ = some (.int .i64 ((rd_T45 l0 x7_1).f2)) ∧ w'.cell? (ad114.add (((ji32)).toNat * 3)) = some (.string ((rd_T45 l0 (ji32)).f0)) ∧ w'.cell? ⟨(ad114.add (((ji32)).toNat * 3)).block, (ad114.add (((ji32)).toNat * 3)).off + 1, none⟩ = some (.int .i64 ((rd_T45 l0 (ji32)).f1)) ∧ w'.cell? ⟨(ad114.add (((ji32)).toNat * 3)).block, (ad114.add (((ji32)).toNat * 3)).off + 2, none⟩ = some (.int .i64 ((rd_T45 l0 (ji32)).f2))) (ds := []) x5tr39_0 (by kernel_rfl) rfl rfl ⟨(blk_cell BK115.out 0).trans rfl, (blk_cell BK115.out 1).trans rfl, (blk_cell BK115.out 2).trans rfl, (pw_cell_below HB.out hw117_0), (pw_cell_below HB.out hw117_1), (pw_cell_below HB.out hw117_2)⟩ (fun hHeld => ?_); refine with_tabW owned_Right.tab4 owned_Right.bits4 (fun HT_ HW_ => ?_)
        generalize w43.drew = w44 at BK115 HB hx117_0 hx117_1 hx117_2 hHeld ⊢
        refine pA_ 0 12 x5tr39_1 HT_.out ?_
        refine tA_ 1 13 x5tr39_2 HT_.out HW_.out hHeld ?_
        refine one_ (i := 2) (N := some 14) x5tr39_3 rfl rfl (one_of HT_.out (by kernel_rfl)) (by decide) (fun K hK => ?_)
        refine goes_ Try.func35 (by kernel_rfl) rfl #[.string ((rd_T45 l0 x7_1).f0)] (by rfl) rfl rfl m_ ?_
        with_reducible refine (path_Right.calls ((rd_T45 l0 x7_1).f0) true _ A5.out).mono ?_
        rintro e w45 ⟨rfl, hb⟩
        refine ⟨_, rfl, ?_⟩
        have n0_ := am_ (blk_below (kB BK115) hb)
        have n1_ := am_ (below_step (kZ HB) hb)
        clear BK115
        clear HB
        have BK115 := n0_
        have HB := n1_
        clear n0_ n1_
        (try clear hb)
        (try clear hb2)
        (try clear hk)
        (try clear hi)
        refine hK.out _ _ ⟨(blk_cell BK115.out 0).trans rfl, (blk_cell BK115.out 1).trans rfl, (blk_cell BK115.out 2).trans rfl, (pw_cell_below HB.out hw117_0), (pw_cell_below HB.out hw117_1), (pw_cell_below HB.out hw117_2)⟩ (fun hHeld => ?_)
        clear hK K
        refine norm_ (a' := ?_) ?_ ?_
        rotate_left
        ·show Act.put _ (some 14) _ = _
         simp only [Act.put, List.setIfInBounds_toArray, List.set_cons_zero, List.set_cons_succ, i64_w, i32_w]
         rfl
        refine pA_ 3 15 x5tr39_4 HT_.out ?_
        refine pA_ 4 16 x5tr39_5 HT_.out ?_
        refine pA_ 5 17 x5tr39_6 HT_.out ?_
        refine tA_ 6 18 x5tr39_7 HT_.out HW_.out hHeld ?_
        refine pA_ 7 19 x5tr39_8 HT_.out ?_
        refine pA_ 8 20 x5tr39_9 HT_.out ?_
        refine pA_ 9 21 x5tr39_10 HT_.out ?_
        refine pA_ 10 22 x5tr39_11 HT_.out ?_
        refine tA_ 11 23 x5tr39_12 HT_.out HW_.out hHeld ?_
        refine pA_ 12 24 x5tr39_13 HT_.out ?_
        refine pA_ 13 25 x5tr39_14 HT_.out ?_
        refine pA_ 14 26 x5tr39_15 HT_.out ?_
        refine pA_ 15 27 x5tr39_16 HT_.out ?_
        refine tA_ 16 28 x5tr39_17 HT_.out HW_.out hHeld ?_
        refine pA_ 17 29 x5tr39_18 HT_.out ?_
        refine pA_ 18 30 x5tr39_19 HT_.out ?_
        refine pA_ 19 31 x5tr39_20 HT_.out ?_
        refine pA_ 20 32 x5tr39_21 HT_.out ?_
        refine tA_ 21 33 x5tr39_22 HT_.out HW_.out hHeld ?_
        refine pA_ 22 34 x5tr39_23 HT_.out ?_
        refine pA_ 23 35 x5tr39_24 HT_.out ?_
        refine pA_ 24 36 x5tr39_25 HT_.out ?_
        refine pA_ 25 37 x5tr39_26 HT_.out ?_
        refine pA_ 26 38 x5tr39_27 HT_.out ?_
        refine pA_ 27 39 x5tr39_28 HT_.out ?_
        refine pA_ 28 40 x5tr39_29 HT_.out ?_
        refine pA_ 29 41 x5tr39_30 HT_.out ?_
        refine pA_ 30 42 x5tr39_31 HT_.out ?_
        refine pA_ 31 43 x5tr39_32 HT_.out ?_
        refine pA_ 32 44 x5tr39_33 HT_.out ?_
        refine pA_ 34 46 x5tr39_m111111111111111111111111111111111010000 HT_.out ?_
        refine tA_ 33 45 x5tr39_35 HT_.out HW_.out hHeld ?_
        refine tA_ 35 47 x5tr39_36 HT_.out HW_.out hHeld ?_
        refine pA_ 36 48 x5tr39_37 HT_.out ?_
        refine pA_ 37 49 x5tr39_38 HT_.out ?_
        refine pA_ 38 50 x5tr39_39 HT_.out ?_
        refine done_ (done_of HT_.out (by kernel_rfl)) ?_
        try go_wp2
        go_ret
        exact ⟨by first | rfl | (simp [errW_none, errW_some] <;> rfl) | (simp only [← hji32]; first | rfl | (simp [errW_none, errW_some] <;> rfl)) | (simp [*, errW_none, errW_some] <;> rfl), kZ HB⟩
       rw [if_pos c35] at H
       have c35b0 : (Op.bytesLess (((rd_T45 l0 (ji32)).f0).toList) (((rd_T45 l0 x7_1).f0).toList)) = true := c35
       clear c35
       have H' := am_ H
       clear H
       have p114 : 0 ≤ (x7_1 : Int) := od_
       have q114 : x7_1 < (l0.length : Int) := od_
       obtain ⟨ad114, e114, hx114_0, hx114_1, hx114_2⟩ := at_T45 HR0.out x7_1 p114 q114
       cases e114
       replace hx114_0 := pw_cell_below HB.out hx114_0
       replace hx114_1 := pw_cell_below HB.out hx114_1
       replace hx114_2 := pw_cell_below HB.out hx114_2
       replace p114 := eq_true p114
       replace q114 := eq_true q114
       try go_wp2_with (first | ((with_reducible refine gate_dst (N := 4) rfl ?_); refine box_event ?hg (N := 4) ?hd (cs := #[.string (⟨#[]⟩ : ByteArray), .int .i64 0, .int .i64 0]) (t := 45) ?hr ?_; (case hd => rfl); (case hg => rfl); (case hr => first | (go_simp; done) | (go_simp; rfl)); intro gb115 hg w36 hbox hb; have n0_ := am_ (below_step (kZ HB) hb); have n1_ := am_ (hbox); have n2_ := am_ (gW hg (kZ HB)); have n3_ := am_ (gW hg (kZ HB)); clear HB; have HB := n0_; have BK115 := n1_; have GW115 := n2_; have GE115 := n3_; clear n0_ n1_ n2_ n3_; clear hb hbox hg; have hcz37_0 : w36.cell? ⟨gb115, 0, none⟩ = some (.string (⟨#[]⟩ : ByteArray)) := (blk_cell BK115.out 0).trans rfl; have hcz37_1 : w36.cell? ⟨gb115, 1, none⟩ = some (.int .i64 0) := (blk_cell BK115.out 1).trans rfl; have hcz37_2 : w36.cell? ⟨gb115, 2, none⟩ = some (.int .i64 0) := (blk_cell BK115.out 2).trans rfl; have hfz37_0 := blk_frozen BK115.out 0; have hfz37_1 := blk_frozen BK115.out 1; have hfz37_2 := blk_frozen BK115.out 2))
       have n0_ : Aside0 ((((w36.setCell ⟨gb115, 0, none⟩ (.string ((rd_T45 l0 x7_1).f0))).setCell ⟨gb115, 1, none⟩ (.int .i64 ((rd_T45 l0 x7_1).f1))).setCell ⟨gb115, 2, none⟩ (.int .i64 ((rd_T45 l0 x7_1).f2))).heap[gb115]? = some (.cells #[.string ((rd_T45 l0 x7_1).f0), .int .i64 ((rd_T45 l0 x7_1).f1), .int .i64 ((rd_T45 l0 x7_1).f2)] 45 (0, 0))) := ⟨by refine kD ?_; refine blk_put (cs := #[.string ((rd_T45 l0 x7_1).f0), .int .i64 ((rd_T45 l0 x7_1).f1), .int .i64 0]) ?_ 2 _ rfl; refine kD ?_; refine blk_put (cs := #[.string ((rd_T45 l0 x7_1).f0), .int .i64 0, .int .i64 0]) ?_ 1 _ rfl; refine kD ?_; refine blk_put (cs := #[.string (⟨#[]⟩ : ByteArray), .int .i64 0, .int .i64 0]) ?_ 0 _ rfl; refine kD ?_; exact BK115.out⟩
       have n1_ : Aside0 (Below w.heap.size w (((w36.setCell ⟨gb115, 0, none⟩ (.string ((rd_T45 l0 x7_1).f0))).setCell ⟨gb115, 1, none⟩ (.int .i64 ((rd_T45 l0 x7_1).f1))).setCell ⟨gb115, 2, none⟩ (.int .i64 ((rd_T45 l0 x7_1).f2)))) := ⟨kZ HB⟩
       (try clear BK115)
       (try clear HB)
       generalize (((w36.setCell ⟨gb115, 0, none⟩ (.string ((rd_T45 l0 x7_1).f0))).setCell ⟨gb115, 1, none⟩ (.int .i64 ((rd_T45 l0 x7_1).f1))).setCell ⟨gb115, 2, none⟩ (.int .i64 ((rd_T45 l0 x7_1).f2))) = w38 at n0_ n1_ ⊢
       have BK115 := n0_
       have HB := n1_
       clear n0_ n1_
       have n0_ := am_ (blk_drew BK115.out)
       have n1_ := am_ (below_drew1 HB.out)
       clear BK115
       clear HB
       have BK115 := n0_
       have HB := n1_
       clear n0_ n1_
       have p117 : 0 ≤ ((ji32) : Int) := od_
       have q117 : (ji32) < (l0.length : Int) := od_
       obtain ⟨ad117, e117, hx117_0, hx117_1, hx117_2⟩ := at_T45 HR0.out (ji32) p117 q117
       have hw117_2 := hx117_2
       have hw117_1 := hx117_1
       have hw117_0 := hx117_0
       obtain rfl : ad114 = ad117 := (by injection e117)
       replace hx117_0 := pw_cell_below HB.out hx117_0
       replace hx117_1 := pw_cell_below HB.out hx117_1
       replace hx117_2 := pw_cell_below HB.out hx117_2
       replace p117 := eq_true p117
       replace q117 := eq_true q117
       refine start_ (n := 39) (S := fun w' => w'.cell? ⟨gb115, 0, none⟩ = some (.string ((rd_T45 l0 x7_1).f0)) ∧ w'.cell? ⟨gb115, 1, none⟩ = some (.int .i64 ((rd_T45 l0 x7_1).f1)) ∧ w'.cell? ⟨gb115, 2, none⟩ = some (.int .i64 ((rd_T45 l0 x7_1).f2)) ∧ w'.cell? (ad114.add (((ji32)).toNat * 3)) = some (.string ((rd_T45 l0 (ji32)).f0)) ∧ w'.cell? ⟨(ad114.add (((ji32)).toNat * 3)).block, (ad114.add (((ji32)).toNat * 3)).off + 1, none⟩ = some (.int .i64 ((rd_T45 l0 (ji32)).f1)) ∧ w'.cell? ⟨(ad114.add (((ji32)).toNat * 3)).block, (ad114.add (((ji32)).toNat * 3)).off + 2, none⟩ = some (.int .i64 ((rd_T45 l0 (ji32)).f2))) (ds := []) x5tr39_0 (by kernel_rfl) rfl rfl ⟨(blk_cell BK115.out 0).trans rfl, (blk_cell BK115.out 1).trans rfl, (blk_cell BK115.out 2).trans rfl, (pw_cell_below HB.out hw117_0), (pw_cell_below HB.out hw117_1), (pw_cell_below HB.out hw117_2)⟩ (fun hHeld => ?_); refine with_tabW owned_Right.tab4 owned_Right.bits4 (fun HT_ HW_ => ?_)
       generalize w38.drew = w39 at BK115 HB hx117_0 hx117_1 hx117_2 hHeld ⊢
       refine pA_ 0 12 x5tr39_1 HT_.out ?_
       refine tA_ 1 13 x5tr39_2 HT_.out HW_.out hHeld ?_
       refine one_ (i := 2) (N := some 14) x5tr39_3 rfl rfl (one_of HT_.out (by kernel_rfl)) (by decide) (fun K hK => ?_)
       refine goes_ Try.func35 (by kernel_rfl) rfl #[.string ((rd_T45 l0 x7_1).f0)] (by rfl) rfl rfl m_ ?_
       with_reducible refine (path_Right.calls ((rd_T45 l0 x7_1).f0) true _ A5.out).mono ?_
       rintro e w40 ⟨rfl, hb⟩
       refine ⟨_, rfl, ?_⟩
       have n0_ := am_ (blk_below (kB BK115) hb)
       have n1_ := am_ (below_step (kZ HB) hb)
       clear BK115
       clear HB
       have BK115 := n0_
       have HB := n1_
       clear n0_ n1_
       (try clear hb)
       (try clear hb2)
       (try clear hk)
       (try clear hi)
       refine hK.out _ _ ⟨(blk_cell BK115.out 0).trans rfl, (blk_cell BK115.out 1).trans rfl, (blk_cell BK115.out 2).trans rfl, (pw_cell_below HB.out hw117_0), (pw_cell_below HB.out hw117_1), (pw_cell_below HB.out hw117_2)⟩ (fun hHeld => ?_)
       clear hK K
       refine norm_ (a' := ?_) ?_ ?_
       rotate_left
       ·show Act.put _ (some 14) _ = _
        simp only [Act.put, List.setIfInBounds_toArray, List.set_cons_zero, List.set_cons_succ, i64_w, i32_w]
        rfl
       refine pA_ 3 15 x5tr39_4 HT_.out ?_
       refine pA_ 4 16 x5tr39_5 HT_.out ?_
       refine pA_ 5 17 x5tr39_6 HT_.out ?_
       refine tA_ 6 18 x5tr39_7 HT_.out HW_.out hHeld ?_
       refine pA_ 7 19 x5tr39_8 HT_.out ?_
       refine pA_ 8 20 x5tr39_9 HT_.out ?_
       refine pA_ 9 21 x5tr39_10 HT_.out ?_
       refine pA_ 10 22 x5tr39_11 HT_.out ?_
       refine tA_ 11 23 x5tr39_12 HT_.out HW_.out hHeld ?_
       refine pA_ 12 24 x5tr39_13 HT_.out ?_
       refine pA_ 13 25 x5tr39_14 HT_.out ?_
       refine pA_ 14 26 x5tr39_15 HT_.out ?_
       refine pA_ 15 27 x5tr39_16 HT_.out ?_
       refine tA_ 16 28 x5tr39_17 HT_.out HW_.out hHeld ?_
       refine pA_ 17 29 x5tr39_18 HT_.out ?_
       refine pA_ 18 30 x5tr39_19 HT_.out ?_
       refine pA_ 19 31 x5tr39_20 HT_.out ?_
       refine pA_ 20 32 x5tr39_21 HT_.out ?_
       refine tA_ 21 33 x5tr39_22 HT_.out HW_.out hHeld ?_
       refine pA_ 22 34 x5tr39_23 HT_.out ?_
       refine pA_ 23 35 x5tr39_24 HT_.out ?_
       refine pA_ 24 36 x5tr39_25 HT_.out ?_
       refine pA_ 25 37 x5tr39_26 HT_.out ?_
       refine pA_ 26 38 x5tr39_27 HT_.out ?_
       refine pA_ 27 39 x5tr39_28 HT_.out ?_
       refine pA_ 28 40 x5tr39_29 HT_.out ?_
       refine pA_ 29 41 x5tr39_30 HT_.out ?_
       refine pA_ 30 42 x5tr39_31 HT_.out ?_
       refine pA_ 31 43 x5tr39_32 HT_.out ?_
       refine pA_ 32 44 x5tr39_33 HT_.out ?_
       refine pA_ 34 46 x5tr39_m111111111111111111111111111111111010000 HT_.out ?_
       refine tA_ 33 45 x5tr39_35 HT_.out HW_.out hHeld ?_
       refine tA_ 35 47 x5tr39_36 HT_.out HW_.out hHeld ?_
       refine pA_ 36 48 x5tr39_37 HT_.out ?_
       refine pA_ 37 49 x5tr39_38 HT_.out ?_
       refine pA_ 38 50 x5tr39_39 HT_.out ?_
       refine done_ (done_of HT_.out (by kernel_rfl)) ?_
       try go_wp2
       go_roundg k1
       case measure => have := HK1.out; omega
       case rel => exact ⟨(wrap64 (x7_1 + 1)), e1_, H', ⟨by have := HK1.out; omega⟩, ⟨kZ HB⟩⟩
      rw [if_pos c25] at H
      have c25b0 : decide (3 < ((rd_T45 l0 x7_1).f2)) = true := decide_eq_true c25
      clear c25
      obtain rfl := Option.some.inj H
      have p114 : 0 ≤ (x7_1 : Int) := od_
      have q114 : x7_1 < (l0.length : Int) := od_
      obtain ⟨ad114, e114, hx114_0, hx114_1, hx114_2⟩ := at_T45 HR0.out x7_1 p114 q114
      cases e114
      replace hx114_0 := pw_cell_below HB.out hx114_0
      replace hx114_1 := pw_cell_below HB.out hx114_1
      replace hx114_2 := pw_cell_below HB.out hx114_2
      replace p114 := eq_true p114
      replace q114 := eq_true q114
      try go_wp2_with (first | ((with_reducible refine gate_dst (N := 4) rfl ?_); refine box_event ?hg (N := 4) ?hd (cs := #[.string (⟨#[]⟩ : ByteArray), .int .i64 0, .int .i64 0]) (t := 45) ?hr ?_; (case hd => rfl); (case hg => rfl); (case hr => first | (go_simp; done) | (go_simp; rfl)); intro gb115 hg w26 hbox hb; have n0_ := am_ (below_step (kZ HB) hb); have n1_ := am_ (hbox); have n2_ := am_ (gW hg (kZ HB)); have n3_ := am_ (gW hg (kZ HB)); clear HB; have HB := n0_; have BK115 := n1_; have GW115 := n2_; have GE115 := n3_; clear n0_ n1_ n2_ n3_; clear hb hbox hg; have hcz27_0 : w26.cell? ⟨gb115, 0, none⟩ = some (.string (⟨#[]⟩ : ByteArray)) := (blk_cell BK115.out 0).trans rfl; have hcz27_1 : w26.cell? ⟨gb115, 1, none⟩ = some (.int .i64 0) := (blk_cell BK115.out 1).trans rfl; have hcz27_2 : w26.cell? ⟨gb115, 2, none⟩ = some (.int .i64 0) := (blk_cell BK115.out 2).trans rfl; have hfz27_0 := blk_frozen BK115.out 0; have hfz27_1 := blk_frozen BK115.out 1; have hfz27_2 := blk_frozen BK115.out 2))
      have n0_ : Aside0 ((((w26.setCell ⟨gb115, 0, none⟩ (.string ((rd_T45 l0 x7_1).f0))).setCell ⟨gb115, 1, none⟩ (.int .i64 ((rd_T45 l0 x7_1).f1))).setCell ⟨gb115, 2, none⟩ (.int .i64 ((rd_T45 l0 x7_1).f2))).heap[gb115]? = some (.cells #[.string ((rd_T45 l0 x7_1).f0), .int .i64 ((rd_T45 l0 x7_1).f1), .int .i64 ((rd_T45 l0 x7_1).f2)] 45 (0, 0))) := ⟨by refine kD ?_; refine blk_put (cs := #[.string ((rd_T45 l0 x7_1).f0), .int .i64 ((rd_T45 l0 x7_1).f1), .int .i64 0]) ?_ 2 _ rfl; refine kD ?_; refine blk_put (cs := #[.string ((rd_T45 l0 x7_1).f0), .int .i64 0, .int .i64 0]) ?_ 1 _ rfl; refine kD ?_; refine blk_put (cs := #[.string (⟨#[]⟩ : ByteArray), .int .i64 0, .int .i64 0]) ?_ 0 _ rfl; refine kD ?_; exact BK115.out⟩
      have n1_ : Aside0 (Below w.heap.size w (((w26.setCell ⟨gb115, 0, none⟩ (.string ((rd_T45 l0 x7_1).f0))).setCell ⟨gb115, 1, none⟩ (.int .i64 ((rd_T45 l0 x7_1).f1))).setCell ⟨gb115, 2, none⟩ (.int .i64 ((rd_T45 l0 x7_1).f2)))) := ⟨kZ HB⟩
      (try clear BK115)
      (try clear HB)
      generalize (((w26.setCell ⟨gb115, 0, none⟩ (.string ((rd_T45 l0 x7_1).f0))).setCell ⟨gb115, 1, none⟩ (.int .i64 ((rd_T45 l0 x7_1).f1))).setCell ⟨gb115, 2, none⟩ (.int .i64 ((rd_T45 l0 x7_1).f2))) = w28 at n0_ n1_ ⊢
      have BK115 := n0_
      have HB := n1_
      clear n0_ n1_
      have n0_ := am_ (blk_drew BK115.out)
      have n1_ := am_ (below_drew1 HB.out)
      clear BK115
      clear HB
      have BK115 := n0_
      have HB := n1_
      clear n0_ n1_
      refine start_ (n := 39) (S := fun w' => w'.cell? ⟨gb115, 0, none⟩ = some (.string ((rd_T45 l0 x7_1).f0)) ∧ w'.cell? ⟨gb115, 1, none⟩ = some (.int .i64 ((rd_T45 l0 x7_1).f1)) ∧ w'.cell? ⟨gb115, 2, none⟩ = some (.int .i64 ((rd_T45 l0 x7_1).f2))) (ds := []) x5tr39_0 (by kernel_rfl) rfl rfl ⟨(blk_cell BK115.out 0).trans rfl, (blk_cell BK115.out 1).trans rfl, (blk_cell BK115.out 2).trans rfl⟩ (fun hHeld => ?_); refine with_tabW owned_Right.tab4 owned_Right.bits4 (fun HT_ HW_ => ?_)
      generalize w28.drew = w29 at BK115 HB hHeld ⊢
      refine pA_ 0 12 x5tr39_1 HT_.out ?_
      refine tA_ 1 13 x5tr39_2 HT_.out HW_.out hHeld ?_
      refine one_ (i := 2) (N := some 14) x5tr39_3 rfl rfl (one_of HT_.out (by kernel_rfl)) (by decide) (fun K hK => ?_)
      refine goes_ Try.func35 (by kernel_rfl) rfl #[.string ((rd_T45 l0 x7_1).f0)] (by rfl) rfl rfl m_ ?_
      with_reducible refine (path_Right.calls ((rd_T45 l0 x7_1).f0) true _ A5.out).mono ?_
      rintro e w30 ⟨rfl, hb⟩
      refine ⟨_, rfl, ?_⟩
      have n0_ := am_ (blk_below (kB BK115) hb)
      have n1_ := am_ (below_step (kZ HB) hb)
      clear BK115
      clear HB
      have BK115 := n0_
      have HB := n1_
      clear n0_ n1_
      (try clear hb)
      (try clear hb2)
      (try clear hk)
      (try clear hi)
      refine hK.out _ _ ⟨(blk_cell BK115.out 0).trans rfl, (blk_cell BK115.out 1).trans rfl, (blk_cell BK115.out 2).trans rfl⟩ (fun hHeld => ?_)
      clear hK K
      refine norm_ (a' := ?_) ?_ ?_
      rotate_left
      ·show Act.put _ (some 14) _ = _
       simp only [Act.put, List.setIfInBounds_toArray, List.set_cons_zero, List.set_cons_succ, i64_w, i32_w]
       rfl
      refine pA_ 3 15 x5tr39_4 HT_.out ?_
      refine pA_ 4 16 x5tr39_5 HT_.out ?_
      refine pA_ 5 17 x5tr39_6 HT_.out ?_
      refine tA_ 6 18 x5tr39_7 HT_.out HW_.out hHeld ?_
      refine pA_ 7 19 x5tr39_8 HT_.out ?_
      refine pA_ 8 20 x5tr39_9 HT_.out ?_
      refine pA_ 9 21 x5tr39_10 HT_.out ?_
      refine pA_ 10 22 x5tr39_11 HT_.out ?_
      refine tA_ 11 23 x5tr39_12 HT_.out HW_.out hHeld ?_
      refine pA_ 12 24 x5tr39_13 HT_.out ?_
      refine pA_ 13 25 x5tr39_14 HT_.out ?_
      refine pA_ 14 26 x5tr39_15 HT_.out ?_
      refine pA_ 15 27 x5tr39_16 HT_.out ?_
      refine tA_ 16 28 x5tr39_17 HT_.out HW_.out hHeld ?_
      refine pA_ 17 29 x5tr39_18 HT_.out ?_
      refine pA_ 18 30 x5tr39_19 HT_.out ?_
      refine pA_ 19 31 x5tr39_20 HT_.out ?_
      refine pA_ 20 32 x5tr39_21 HT_.out ?_
      refine tA_ 21 33 x5tr39_22 HT_.out HW_.out hHeld ?_
      refine pA_ 22 34 x5tr39_23 HT_.out ?_
      refine pA_ 23 35 x5tr39_24 HT_.out ?_
      refine pA_ 24 36 x5tr39_25 HT_.out ?_
      refine pU_ 25 37 x5tr39_26 HT_.out ?_
      refine pU_ 26 38 x5tr39_27 HT_.out ?_
      refine pU_ 27 39 x5tr39_28 HT_.out ?_
      refine pU_ 28 40 x5tr39_29 HT_.out ?_
      refine pU_ 29 41 x5tr39_30 HT_.out ?_
      refine pU_ 30 42 x5tr39_31 HT_.out ?_
      refine pU_ 31 43 x5tr39_32 HT_.out ?_
      refine pU_ 32 44 x5tr39_33 HT_.out ?_
      refine pU_ 33 45 x5tr39_34 HT_.out ?_
      refine pU_ 34 46 x5tr39_35 HT_.out ?_
      refine pU_ 35 47 x5tr39_36 HT_.out ?_
      refine pU_ 36 48 x5tr39_37 HT_.out ?_
      refine pU_ 37 49 x5tr39_38 HT_.out ?_
      refine pA_ 38 50 x5tr39_39 HT_.out ?_
      refine done_ (done_of HT_.out (by kernel_rfl)) ?_
      try go_wp2
      go_ret
      exact ⟨e2_, kZ HB⟩
     rw [if_pos c19] at H
     have c19b0 : decide (((rd_T45 l0 x7_1).f2) < 1) = true := decide_eq_true c19
     clear c19
     obtain rfl := Option.some.inj H
     have p114 : 0 ≤ (x7_1 : Int) := od_
     have q114 : x7_1 < (l0.length : Int) := od_
     obtain ⟨ad114, e114, hx114_0, hx114_1, hx114_2⟩ := at_T45 HR0.out x7_1 p114 q114
     cases e114
     replace hx114_0 := pw_cell_below HB.out hx114_0
     replace hx114_1 := pw_cell_below HB.out hx114_1
     replace hx114_2 := pw_cell_below HB.out hx114_2
     replace p114 := eq_true p114
     replace q114 := eq_true q114
     try go_wp2_with (first | ((with_reducible refine gate_dst (N := 4) rfl ?_); refine box_event ?hg (N := 4) ?hd (cs := #[.string (⟨#[]⟩ : ByteArray), .int .i64 0, .int .i64 0]) (t := 45) ?hr ?_; (case hd => rfl); (case hg => rfl); (case hr => first | (go_simp; done) | (go_simp; rfl)); intro gb115 hg w20 hbox hb; have n0_ := am_ (below_step (kZ HB) hb); have n1_ := am_ (hbox); have n2_ := am_ (gW hg (kZ HB)); have n3_ := am_ (gW hg (kZ HB)); clear HB; have HB := n0_; have BK115 := n1_; have GW115 := n2_; have GE115 := n3_; clear n0_ n1_ n2_ n3_; clear hb hbox hg; have hcz21_0 : w20.cell? ⟨gb115, 0, none⟩ = some (.string (⟨#[]⟩ : ByteArray)) := (blk_cell BK115.out 0).trans rfl; have hcz21_1 : w20.cell? ⟨gb115, 1, none⟩ = some (.int .i64 0) := (blk_cell BK115.out 1).trans rfl; have hcz21_2 : w20.cell? ⟨gb115, 2, none⟩ = some (.int .i64 0) := (blk_cell BK115.out 2).trans rfl; have hfz21_0 := blk_frozen BK115.out 0; have hfz21_1 := blk_frozen BK115.out 1; have hfz21_2 := blk_frozen BK115.out 2))
     have n0_ : Aside0 ((((w20.setCell ⟨gb115, 0, none⟩ (.string ((rd_T45 l0 x7_1).f0))).setCell ⟨gb115, 1, none⟩ (.int .i64 ((rd_T45 l0 x7_1).f1))).setCell ⟨gb115, 2, none⟩ (.int .i64 ((rd_T45 l0 x7_1).f2))).heap[gb115]? = some (.cells #[.string ((rd_T45 l0 x7_1).f0), .int .i64 ((rd_T45 l0 x7_1).f1), .int .i64 ((rd_T45 l0 x7_1).f2)] 45 (0, 0))) := ⟨by refine kD ?_; refine blk_put (cs := #[.string ((rd_T45 l0 x7_1).f0), .int .i64 ((rd_T45 l0 x7_1).f1), .int .i64 0]) ?_ 2 _ rfl; refine kD ?_; refine blk_put (cs := #[.string ((rd_T45 l0 x7_1).f0), .int .i64 0, .int .i64 0]) ?_ 1 _ rfl; refine kD ?_; refine blk_put (cs := #[.string (⟨#[]⟩ : ByteArray), .int .i64 0, .int .i64 0]) ?_ 0 _ rfl; refine kD ?_; exact BK115.out⟩
     have n1_ : Aside0 (Below w.heap.size w (((w20.setCell ⟨gb115, 0, none⟩ (.string ((rd_T45 l0 x7_1).f0))).setCell ⟨gb115, 1, none⟩ (.int .i64 ((rd_T45 l0 x7_1).f1))).setCell ⟨gb115, 2, none⟩ (.int .i64 ((rd_T45 l0 x7_1).f2)))) := ⟨kZ HB⟩
     (try clear BK115)
     (try clear HB)
     generalize (((w20.setCell ⟨gb115, 0, none⟩ (.string ((rd_T45 l0 x7_1).f0))).setCell ⟨gb115, 1, none⟩ (.int .i64 ((rd_T45 l0 x7_1).f1))).setCell ⟨gb115, 2, none⟩ (.int .i64 ((rd_T45 l0 x7_1).f2))) = w22 at n0_ n1_ ⊢
     have BK115 := n0_
     have HB := n1_
     clear n0_ n1_
     have n0_ := am_ (blk_drew BK115.out)
     have n1_ := am_ (below_drew1 HB.out)
     clear BK115
     clear HB
     have BK115 := n0_
     have HB := n1_
     clear n0_ n1_
     refine start_ (n := 39) (S := fun w' => w'.cell? ⟨gb115, 0, none⟩ = some (.string ((rd_T45 l0 x7_1).f0)) ∧ w'.cell? ⟨gb115, 1, none⟩ = some (.int .i64 ((rd_T45 l0 x7_1).f1)) ∧ w'.cell? ⟨gb115, 2, none⟩ = some (.int .i64 ((rd_T45 l0 x7_1).f2))) (ds := []) x5tr39_0 (by kernel_rfl) rfl rfl ⟨(blk_cell BK115.out 0).trans rfl, (blk_cell BK115.out 1).trans rfl, (blk_cell BK115.out 2).trans rfl⟩ (fun hHeld => ?_); refine with_tabW owned_Right.tab4 owned_Right.bits4 (fun HT_ HW_ => ?_)
     generalize w22.drew = w23 at BK115 HB hHeld ⊢
     refine pA_ 0 12 x5tr39_1 HT_.out ?_
     refine tA_ 1 13 x5tr39_2 HT_.out HW_.out hHeld ?_
     refine one_ (i := 2) (N := some 14) x5tr39_3 rfl rfl (one_of HT_.out (by kernel_rfl)) (by decide) (fun K hK => ?_)
     refine goes_ Try.func35 (by kernel_rfl) rfl #[.string ((rd_T45 l0 x7_1).f0)] (by rfl) rfl rfl m_ ?_
     with_reducible refine (path_Right.calls ((rd_T45 l0 x7_1).f0) true _ A5.out).mono ?_
     rintro e w24 ⟨rfl, hb⟩
     refine ⟨_, rfl, ?_⟩
     have n0_ := am_ (blk_below (kB BK115) hb)
     have n1_ := am_ (below_step (kZ HB) hb)
     clear BK115
     clear HB
     have BK115 := n0_
     have HB := n1_
     clear n0_ n1_
     (try clear hb)
     (try clear hb2)
     (try clear hk)
     (try clear hi)
     refine hK.out _ _ ⟨(blk_cell BK115.out 0).trans rfl, (blk_cell BK115.out 1).trans rfl, (blk_cell BK115.out 2).trans rfl⟩ (fun hHeld => ?_)
     clear hK K
     refine norm_ (a' := ?_) ?_ ?_
     rotate_left
     ·show Act.put _ (some 14) _ = _
      simp only [Act.put, List.setIfInBounds_toArray, List.set_cons_zero, List.set_cons_succ, i64_w, i32_w]
      rfl
     refine pA_ 3 15 x5tr39_4 HT_.out ?_
     refine pA_ 4 16 x5tr39_5 HT_.out ?_
     refine pA_ 5 17 x5tr39_6 HT_.out ?_
     refine tA_ 6 18 x5tr39_7 HT_.out HW_.out hHeld ?_
     refine pA_ 7 19 x5tr39_8 HT_.out ?_
     refine pA_ 8 20 x5tr39_9 HT_.out ?_
     refine pA_ 9 21 x5tr39_10 HT_.out ?_
     refine pA_ 10 22 x5tr39_11 HT_.out ?_
     refine tA_ 11 23 x5tr39_12 HT_.out HW_.out hHeld ?_
     refine pA_ 12 24 x5tr39_13 HT_.out ?_
     refine pA_ 13 25 x5tr39_14 HT_.out ?_
     refine pA_ 14 26 x5tr39_15 HT_.out ?_
     refine pA_ 15 27 x5tr39_16 HT_.out ?_
     refine tA_ 16 28 x5tr39_17 HT_.out HW_.out hHeld ?_
     refine pA_ 17 29 x5tr39_18 HT_.out ?_
     refine pA_ 18 30 x5tr39_19 HT_.out ?_
     refine pA_ 19 31 x5tr39_20 HT_.out ?_
     refine pU_ 20 32 x5tr39_21 HT_.out ?_
     refine pU_ 21 33 x5tr39_22 HT_.out ?_
     refine pU_ 22 34 x5tr39_23 HT_.out ?_
     refine pA_ 23 35 x5tr39_24 HT_.out ?_
     refine pA_ 24 36 x5tr39_25 HT_.out ?_
     refine pU_ 25 37 x5tr39_26 HT_.out ?_
     refine pU_ 26 38 x5tr39_27 HT_.out ?_
     refine pU_ 27 39 x5tr39_28 HT_.out ?_
     refine pU_ 28 40 x5tr39_29 HT_.out ?_
     refine pU_ 29 41 x5tr39_30 HT_.out ?_
     refine pU_ 30 42 x5tr39_31 HT_.out ?_
     refine pU_ 31 43 x5tr39_32 HT_.out ?_
     refine pU_ 32 44 x5tr39_33 HT_.out ?_
     refine pU_ 33 45 x5tr39_34 HT_.out ?_
     refine pU_ 34 46 x5tr39_35 HT_.out ?_
     refine pU_ 35 47 x5tr39_36 HT_.out ?_
     refine pU_ 36 48 x5tr39_37 HT_.out ?_
     refine pU_ 37 49 x5tr39_38 HT_.out ?_
     refine pA_ 38 50 x5tr39_39 HT_.out ?_
     refine done_ (done_of HT_.out (by kernel_rfl)) ?_
     try go_wp2
     go_ret
     exact ⟨e2_, kZ HB⟩
    rw [if_pos c13] at H
    have c13b0 : decide (281474976710656 < ((rd_T45 l0 x7_1).f1)) = true := decide_eq_true c13
    clear c13
    obtain rfl := Option.some.inj H
    have p114 : 0 ≤ (x7_1 : Int) := od_
    have q114 : x7_1 < (l0.length : Int) := od_
    obtain ⟨ad114, e114, hx114_0, hx114_1, hx114_2⟩ := at_T45 HR0.out x7_1 p114 q114
    cases e114
    replace hx114_0 := pw_cell_below HB.out hx114_0
    replace hx114_1 := pw_cell_below HB.out hx114_1
    replace hx114_2 := pw_cell_below HB.out hx114_2
    replace p114 := eq_true p114
    replace q114 := eq_true q114
    try go_wp2_with (first | ((with_reducible refine gate_dst (N := 4) rfl ?_); refine box_event ?hg (N := 4) ?hd (cs := #[.string (⟨#[]⟩ : ByteArray), .int .i64 0, .int .i64 0]) (t := 45) ?hr ?_; (case hd => rfl); (case hg => rfl); (case hr => first | (go_simp; done) | (go_simp; rfl)); intro gb115 hg w14 hbox hb; have n0_ := am_ (below_step (kZ HB) hb); have n1_ := am_ (hbox); have n2_ := am_ (gW hg (kZ HB)); have n3_ := am_ (gW hg (kZ HB)); clear HB; have HB := n0_; have BK115 := n1_; have GW115 := n2_; have GE115 := n3_; clear n0_ n1_ n2_ n3_; clear hb hbox hg; have hcz15_0 : w14.cell? ⟨gb115, 0, none⟩ = some (.string (⟨#[]⟩ : ByteArray)) := (blk_cell BK115.out 0).trans rfl; have hcz15_1 : w14.cell? ⟨gb115, 1, none⟩ = some (.int .i64 0) := (blk_cell BK115.out 1).trans rfl; have hcz15_2 : w14.cell? ⟨gb115, 2, none⟩ = some (.int .i64 0) := (blk_cell BK115.out 2).trans rfl; have hfz15_0 := blk_frozen BK115.out 0; have hfz15_1 := blk_frozen BK115.out 1; have hfz15_2 := blk_frozen BK115.out 2))
    have n0_ : Aside0 ((((w14.setCell ⟨gb115, 0, none⟩ (.string ((rd_T45 l0 x7_1).f0))).setCell ⟨gb115, 1, none⟩ (.int .i64 ((rd_T45 l0 x7_1).f1))).setCell ⟨gb115, 2, none⟩ (.int .i64 ((rd_T45 l0 x7_1).f2))).heap[gb115]? = some (.cells #[.string ((rd_T45 l0 x7_1).f0), .int .i64 ((rd_T45 l0 x7_1).f1), .int .i64 ((rd_T45 l0 x7_1).f2)] 45 (0, 0))) := ⟨by refine kD ?_; refine blk_put (cs := #[.string ((rd_T45 l0 x7_1).f0), .int .i64 ((rd_T45 l0 x7_1).f1), .int .i64 0]) ?_ 2 _ rfl; refine kD ?_; refine blk_put (cs := #[.string ((rd_T45 l0 x7_1).f0), .int .i64 0, .int .i64 0]) ?_ 1 _ rfl; refine kD ?_; refine blk_put (cs := #[.string (⟨#[]⟩ : ByteArray), .int .i64 0, .int .i64 0]) ?_ 0 _ rfl; refine kD ?_; exact BK115.out⟩
    have n1_ : Aside0 (Below w.heap.size w (((w14.setCell ⟨gb115, 0, none⟩ (.string ((rd_T45 l0 x7_1).f0))).setCell ⟨gb115, 1, none⟩ (.int .i64 ((rd_T45 l0 x7_1).f1))).setCell ⟨gb115, 2, none⟩ (.int .i64 ((rd_T45 l0 x7_1).f2)))) := ⟨kZ HB⟩
    (try clear BK115)
    (try clear HB)
    generalize (((w14.setCell ⟨gb115, 0, none⟩ (.string ((rd_T45 l0 x7_1).f0))).setCell ⟨gb115, 1, none⟩ (.int .i64 ((rd_T45 l0 x7_1).f1))).setCell ⟨gb115, 2, none⟩ (.int .i64 ((rd_T45 l0 x7_1).f2))) = w16 at n0_ n1_ ⊢
    have BK115 := n0_
    have HB := n1_
    clear n0_ n1_
    have n0_ := am_ (blk_drew BK115.out)
    have n1_ := am_ (below_drew1 HB.out)
    clear BK115
    clear HB
    have BK115 := n0_
    have HB := n1_
    clear n0_ n1_
    refine start_ (n := 39) (S := fun w' => w'.cell? ⟨gb115, 0, none⟩ = some (.string ((rd_T45 l0 x7_1).f0)) ∧ w'.cell? ⟨gb115, 1, none⟩ = some (.int .i64 ((rd_T45 l0 x7_1).f1)) ∧ w'.cell? ⟨gb115, 2, none⟩ = some (.int .i64 ((rd_T45 l0 x7_1).f2))) (ds := []) x5tr39_0 (by kernel_rfl) rfl rfl ⟨(blk_cell BK115.out 0).trans rfl, (blk_cell BK115.out 1).trans rfl, (blk_cell BK115.out 2).trans rfl⟩ (fun hHeld => ?_); refine with_tabW owned_Right.tab4 owned_Right.bits4 (fun HT_ HW_ => ?_)
    generalize w16.drew = w17 at BK115 HB hHeld ⊢
    refine pA_ 0 12 x5tr39_1 HT_.out ?_
    refine tA_ 1 13 x5tr39_2 HT_.out HW_.out hHeld ?_
    refine one_ (i := 2) (N := some 14) x5tr39_3 rfl rfl (one_of HT_.out (by kernel_rfl)) (by decide) (fun K hK => ?_)
    refine goes_ Try.func35 (by kernel_rfl) rfl #[.string ((rd_T45 l0 x7_1).f0)] (by rfl) rfl rfl m_ ?_
    with_reducible refine (path_Right.calls ((rd_T45 l0 x7_1).f0) true _ A5.out).mono ?_
    rintro e w18 ⟨rfl, hb⟩
    refine ⟨_, rfl, ?_⟩
    have n0_ := am_ (blk_below (kB BK115) hb)
    have n1_ := am_ (below_step (kZ HB) hb)
    clear BK115
    clear HB
    have BK115 := n0_
    have HB := n1_
    clear n0_ n1_
    (try clear hb)
    (try clear hb2)
    (try clear hk)
    (try clear hi)
    refine hK.out _ _ ⟨(blk_cell BK115.out 0).trans rfl, (blk_cell BK115.out 1).trans rfl, (blk_cell BK115.out 2).trans rfl⟩ (fun hHeld => ?_)
    clear hK K
    refine norm_ (a' := ?_) ?_ ?_
    rotate_left
    ·show Act.put _ (some 14) _ = _
     simp only [Act.put, List.setIfInBounds_toArray, List.set_cons_zero, List.set_cons_succ, i64_w, i32_w]
     rfl
    refine pA_ 3 15 x5tr39_4 HT_.out ?_
    refine pA_ 4 16 x5tr39_5 HT_.out ?_
    refine pA_ 5 17 x5tr39_6 HT_.out ?_
    refine tA_ 6 18 x5tr39_7 HT_.out HW_.out hHeld ?_
    refine pA_ 7 19 x5tr39_8 HT_.out ?_
    refine pA_ 8 20 x5tr39_9 HT_.out ?_
    refine pA_ 9 21 x5tr39_10 HT_.out ?_
    refine pA_ 10 22 x5tr39_11 HT_.out ?_
    refine tA_ 11 23 x5tr39_12 HT_.out HW_.out hHeld ?_
    refine pA_ 12 24 x5tr39_13 HT_.out ?_
    refine pA_ 13 25 x5tr39_14 HT_.out ?_
    refine pA_ 14 26 x5tr39_15 HT_.out ?_
    refine pU_ 15 27 x5tr39_16 HT_.out ?_
    refine pU_ 16 28 x5tr39_17 HT_.out ?_
    refine pU_ 17 29 x5tr39_18 HT_.out ?_
    refine pA_ 18 30 x5tr39_19 HT_.out ?_
    refine pA_ 19 31 x5tr39_20 HT_.out ?_
    refine pU_ 20 32 x5tr39_21 HT_.out ?_
    refine pU_ 21 33 x5tr39_22 HT_.out ?_
    refine pU_ 22 34 x5tr39_23 HT_.out ?_
    refine pA_ 23 35 x5tr39_24 HT_.out ?_
    refine pA_ 24 36 x5tr39_25 HT_.out ?_
    refine pU_ 25 37 x5tr39_26 HT_.out ?_
    refine pU_ 26 38 x5tr39_27 HT_.out ?_
    refine pU_ 27 39 x5tr39_28 HT_.out ?_
    refine pU_ 28 40 x5tr39_29 HT_.out ?_
    refine pU_ 29 41 x5tr39_30 HT_.out ?_
    refine pU_ 30 42 x5tr39_31 HT_.out ?_
    refine pU_ 31 43 x5tr39_32 HT_.out ?_
    refine pU_ 32 44 x5tr39_33 HT_.out ?_
    refine pU_ 33 45 x5tr39_34 HT_.out ?_
    refine pU_ 34 46 x5tr39_35 HT_.out ?_
    refine pU_ 35 47 x5tr39_36 HT_.out ?_
    refine pU_ 36 48 x5tr39_37 HT_.out ?_
    refine pU_ 37 49 x5tr39_38 HT_.out ?_
    refine pA_ 38 50 x5tr39_39 HT_.out ?_
    refine done_ (done_of HT_.out (by kernel_rfl)) ?_
    try go_wp2
    go_ret
    exact ⟨e2_, kZ HB⟩
   rw [if_pos c7] at H
   have c7b0 : decide (((rd_T45 l0 x7_1).f1) < 0) = true := decide_eq_true c7
   clear c7
   obtain rfl := Option.some.inj H
   have p114 : 0 ≤ (x7_1 : Int) := od_
   have q114 : x7_1 < (l0.length : Int) := od_
   obtain ⟨ad114, e114, hx114_0, hx114_1, hx114_2⟩ := at_T45 HR0.out x7_1 p114 q114
   cases e114
   replace hx114_0 := pw_cell_below HB.out hx114_0
   replace hx114_1 := pw_cell_below HB.out hx114_1
   replace hx114_2 := pw_cell_below HB.out hx114_2
   replace p114 := eq_true p114
   replace q114 := eq_true q114
   try go_wp2_with (first | ((with_reducible refine gate_dst (N := 4) rfl ?_); refine box_event ?hg (N := 4) ?hd (cs := #[.string (⟨#[]⟩ : ByteArray), .int .i64 0, .int .i64 0]) (t := 45) ?hr ?_; (case hd => rfl); (case hg => rfl); (case hr => first | (go_simp; done) | (go_simp; rfl)); intro gb115 hg w8 hbox hb; have n0_ := am_ (below_step (kZ HB) hb); have n1_ := am_ (hbox); have n2_ := am_ (gW hg (kZ HB)); have n3_ := am_ (gW hg (kZ HB)); clear HB; have HB := n0_; have BK115 := n1_; have GW115 := n2_; have GE115 := n3_; clear n0_ n1_ n2_ n3_; clear hb hbox hg; have hcz9_0 : w8.cell? ⟨gb115, 0, none⟩ = some (.string (⟨#[]⟩ : ByteArray)) := (blk_cell BK115.out 0).trans rfl; have hcz9_1 : w8.cell? ⟨gb115, 1, none⟩ = some (.int .i64 0) := (blk_cell BK115.out 1).trans rfl; have hcz9_2 : w8.cell? ⟨gb115, 2, none⟩ = some (.int .i64 0) := (blk_cell BK115.out 2).trans rfl; have hfz9_0 := blk_frozen BK115.out 0; have hfz9_1 := blk_frozen BK115.out 1; have hfz9_2 := blk_frozen BK115.out 2))
   have n0_ : Aside0 ((((w8.setCell ⟨gb115, 0, none⟩ (.string ((rd_T45 l0 x7_1).f0))).setCell ⟨gb115, 1, none⟩ (.int .i64 ((rd_T45 l0 x7_1).f1))).setCell ⟨gb115, 2, none⟩ (.int .i64 ((rd_T45 l0 x7_1).f2))).heap[gb115]? = some (.cells #[.string ((rd_T45 l0 x7_1).f0), .int .i64 ((rd_T45 l0 x7_1).f1), .int .i64 ((rd_T45 l0 x7_1).f2)] 45 (0, 0))) := ⟨by refine kD ?_; refine blk_put (cs := #[.string ((rd_T45 l0 x7_1).f0), .int .i64 ((rd_T45 l0 x7_1).f1), .int .i64 0]) ?_ 2 _ rfl; refine kD ?_; refine blk_put (cs := #[.string ((rd_T45 l0 x7_1).f0), .int .i64 0, .int .i64 0]) ?_ 1 _ rfl; refine kD ?_; refine blk_put (cs := #[.string (⟨#[]⟩ : ByteArray), .int .i64 0, .int .i64 0]) ?_ 0 _ rfl; refine kD ?_; exact BK115.out⟩
   have n1_ : Aside0 (Below w.heap.size w (((w8.setCell ⟨gb115, 0, none⟩ (.string ((rd_T45 l0 x7_1).f0))).setCell ⟨gb115, 1, none⟩ (.int .i64 ((rd_T45 l0 x7_1).f1))).setCell ⟨gb115, 2, none⟩ (.int .i64 ((rd_T45 l0 x7_1).f2)))) := ⟨kZ HB⟩
   (try clear BK115)
   (try clear HB)
   generalize (((w8.setCell ⟨gb115, 0, none⟩ (.string ((rd_T45 l0 x7_1).f0))).setCell ⟨gb115, 1, none⟩ (.int .i64 ((rd_T45 l0 x7_1).f1))).setCell ⟨gb115, 2, none⟩ (.int .i64 ((rd_T45 l0 x7_1).f2))) = w10 at n0_ n1_ ⊢
   have BK115 := n0_
   have HB := n1_
   clear n0_ n1_
   have n0_ := am_ (blk_drew BK115.out)
   have n1_ := am_ (below_drew1 HB.out)
   clear BK115
   clear HB
   have BK115 := n0_
   have HB := n1_
   clear n0_ n1_
   refine start_ (n := 39) (S := fun w' => w'.cell? ⟨gb115, 0, none⟩ = some (.string ((rd_T45 l0 x7_1).f0)) ∧ w'.cell? ⟨gb115, 1, none⟩ = some (.int .i64 ((rd_T45 l0 x7_1).f1)) ∧ w'.cell? ⟨gb115, 2, none⟩ = some (.int .i64 ((rd_T45 l0 x7_1).f2))) (ds := []) x5tr39_0 (by kernel_rfl) rfl rfl ⟨(blk_cell BK115.out 0).trans rfl, (blk_cell BK115.out 1).trans rfl, (blk_cell BK115.out 2).trans rfl⟩ (fun hHeld => ?_); refine with_tabW owned_Right.tab4 owned_Right.bits4 (fun HT_ HW_ => ?_)
   generalize w10.drew = w11 at BK115 HB hHeld ⊢
   refine pA_ 0 12 x5tr39_1 HT_.out ?_
   refine tA_ 1 13 x5tr39_2 HT_.out HW_.out hHeld ?_
   refine one_ (i := 2) (N := some 14) x5tr39_3 rfl rfl (one_of HT_.out (by kernel_rfl)) (by decide) (fun K hK => ?_)
   refine goes_ Try.func35 (by kernel_rfl) rfl #[.string ((rd_T45 l0 x7_1).f0)] (by rfl) rfl rfl m_ ?_
   with_reducible refine (path_Right.calls ((rd_T45 l0 x7_1).f0) true _ A5.out).mono ?_
   rintro e w12 ⟨rfl, hb⟩
   refine ⟨_, rfl, ?_⟩
   have n0_ := am_ (blk_below (kB BK115) hb)
   have n1_ := am_ (below_step (kZ HB) hb)
   clear BK115
   clear HB
   have BK115 := n0_
   have HB := n1_
   clear n0_ n1_
   (try clear hb)
   (try clear hb2)
   (try clear hk)
   (try clear hi)
   refine hK.out _ _ ⟨(blk_cell BK115.out 0).trans rfl, (blk_cell BK115.out 1).trans rfl, (blk_cell BK115.out 2).trans rfl⟩ (fun hHeld => ?_)
   clear hK K
   refine norm_ (a' := ?_) ?_ ?_
   rotate_left
   ·show Act.put _ (some 14) _ = _
    simp only [Act.put, List.setIfInBounds_toArray, List.set_cons_zero, List.set_cons_succ, i64_w, i32_w]
    rfl
   refine pA_ 3 15 x5tr39_4 HT_.out ?_
   refine pA_ 4 16 x5tr39_5 HT_.out ?_
   refine pA_ 5 17 x5tr39_6 HT_.out ?_
   refine tA_ 6 18 x5tr39_7 HT_.out HW_.out hHeld ?_
   refine pA_ 7 19 x5tr39_8 HT_.out ?_
   refine pA_ 8 20 x5tr39_9 HT_.out ?_
   refine pA_ 9 21 x5tr39_10 HT_.out ?_
   refine pU_ 10 22 x5tr39_11 HT_.out ?_
   refine pU_ 11 23 x5tr39_12 HT_.out ?_
   refine pU_ 12 24 x5tr39_13 HT_.out ?_
   refine pA_ 13 25 x5tr39_14 HT_.out ?_
   refine pA_ 14 26 x5tr39_15 HT_.out ?_
   refine pU_ 15 27 x5tr39_16 HT_.out ?_
   refine pU_ 16 28 x5tr39_17 HT_.out ?_
   refine pU_ 17 29 x5tr39_18 HT_.out ?_
   refine pA_ 18 30 x5tr39_19 HT_.out ?_
   refine pA_ 19 31 x5tr39_20 HT_.out ?_
   refine pU_ 20 32 x5tr39_21 HT_.out ?_
   refine pU_ 21 33 x5tr39_22 HT_.out ?_
   refine pU_ 22 34 x5tr39_23 HT_.out ?_
   refine pA_ 23 35 x5tr39_24 HT_.out ?_
   refine pA_ 24 36 x5tr39_25 HT_.out ?_
   refine pU_ 25 37 x5tr39_26 HT_.out ?_
   refine pU_ 26 38 x5tr39_27 HT_.out ?_
   refine pU_ 27 39 x5tr39_28 HT_.out ?_
   refine pU_ 28 40 x5tr39_29 HT_.out ?_
   refine pU_ 29 41 x5tr39_30 HT_.out ?_
   refine pU_ 30 42 x5tr39_31 HT_.out ?_
   refine pU_ 31 43 x5tr39_32 HT_.out ?_
   refine pU_ 32 44 x5tr39_33 HT_.out ?_
   refine pU_ 33 45 x5tr39_34 HT_.out ?_
   refine pU_ 34 46 x5tr39_35 HT_.out ?_
   refine pU_ 35 47 x5tr39_36 HT_.out ?_
   refine pU_ 36 48 x5tr39_37 HT_.out ?_
   refine pU_ 37 49 x5tr39_38 HT_.out ?_
   refine pA_ 38 50 x5tr39_39 HT_.out ?_
   refine done_ (done_of HT_.out (by kernel_rfl)) ?_
   try go_wp2
   go_ret
   exact ⟨e2_, kZ HB⟩
end Go.Proofs.Ytinjajpnbbknnaa.Q
