-- Written by a program of this session (xprint) out of the translation; over contracts proved by hand.
import Derived.Test.YtinjajpnbbknnaaQx0
import Derived.Test.YtinjajpnbbknnaaSq
import Derived.Test.YtinjajpnbbknnaaQx5
import Derived.Test.YtinjajpnbbknnaaQx6
namespace Go.Proofs.Ytinjajpnbbknnaa.Cut2
end Go.Proofs.Ytinjajpnbbknnaa.Cut2
namespace Go.Proofs.Ytinjajpnbbknnaa.RPut
end Go.Proofs.Ytinjajpnbbknnaa.RPut
namespace Go.Proofs.Ytinjajpnbbknnaa.Split
end Go.Proofs.Ytinjajpnbbknnaa.Split
namespace Go.Proofs.Ytinjajpnbbknnaa.Q
open Go.Proofs.Ytinjajpnbbknnaa.Cut2 Go.Proofs.Ytinjajpnbbknnaa.RPut Go.Proofs.Ytinjajpnbbknnaa.Split
set_option linter.unnecessarySimpa false
open Go.RowKit Go.Proofs.YtinjajpnbbknnaaW.PrintWords Go.Proofs.YtinjajpnbbknnaaW.PrintLast Go.Proofs.YtinjajpnbbknnaaW.PrintMore
attribute [local go_sem] max2_int min2_int max_two min_two max_three min_three max_four min_four   -- for this text's walks alone
set_option linter.unusedVariables false
set_option linter.unusedSimpArgs false

abbrev x7tr20_0 : Array Bool := trr 20 0
abbrev x7tr20_1 : Array Bool := trr 20 1
abbrev x7tr20_10 : Array Bool := trr 20 10
abbrev x7tr20_11 : Array Bool := trr 20 11
abbrev x7tr20_12 : Array Bool := trr 20 12
abbrev x7tr20_13 : Array Bool := trr 20 13
abbrev x7tr20_14 : Array Bool := trr 20 14
abbrev x7tr20_15 : Array Bool := trr 20 15
abbrev x7tr20_16 : Array Bool := trr 20 16
abbrev x7tr20_17 : Array Bool := trr 20 17
abbrev x7tr20_18 : Array Bool := trr 20 18
abbrev x7tr20_19 : Array Bool := trr 20 19
abbrev x7tr20_2 : Array Bool := trr 20 2
abbrev x7tr20_20 : Array Bool := trr 20 20
abbrev x7tr20_3 : Array Bool := trr 20 3
abbrev x7tr20_4 : Array Bool := trr 20 4
abbrev x7tr20_5 : Array Bool := trr 20 5
abbrev x7tr20_6 : Array Bool := trr 20 6
abbrev x7tr20_7 : Array Bool := trr 20 7
abbrev x7tr20_8 : Array Bool := trr 20 8
abbrev x7tr20_9 : Array Bool := trr 20 9
abbrev x7tr20_m11111111100100000000 : Array Bool := #[true, true, true, true, true, true, true, true, true, false, false, true, false, false, false, false, false, false, false, false]
abbrev x7tr20_m11111111100110000000 : Array Bool := #[true, true, true, true, true, true, true, true, true, false, false, true, true, false, false, false, false, false, false, false]
abbrev x7tr20_m11111111100111000000 : Array Bool := #[true, true, true, true, true, true, true, true, true, false, false, true, true, true, false, false, false, false, false, false]
abbrev x7tr20_m11111111100111100000 : Array Bool := #[true, true, true, true, true, true, true, true, true, false, false, true, true, true, true, false, false, false, false, false]
abbrev x7tr20_m11111111110111100000 : Array Bool := #[true, true, true, true, true, true, true, true, true, true, false, true, true, true, true, false, false, false, false, false]
/-! ### owned_Of: function 19 -/
def owned_Of.l0 : Nat → List (S45) → ByteArray → Int → List (S45) → Int → Int → Option (Int)
 | 0, _, _, _, _, _, _ => none
 | k + 1, x0, x1, x5, x8, x9, x10 => if x10 < x9 then (if 0 ≤ x10 then (if x10 < (x8.length : Int) then ((path_In.f k x1 ((rd_T45 x8 x10).f0)).bind fun t130 => (if t130 = true then (if x5 < 0 then (owned_Of.l0 k x0 x1 x10 x8 x9 (wrap64 (x10 + 1))) else (if 0 ≤ x5 then (if x5 < (x0.length : Int) then (if (((rd_T45 x8 x10).f0).size : Int) > (((rd_T45 x0 x5).f0).size : Int) then (owned_Of.l0 k x0 x1 x10 x8 x9 (wrap64 (x10 + 1))) else (owned_Of.l0 k x0 x1 x5 x8 x9 (wrap64 (x10 + 1)))) else (none)) else (none))) else (owned_Of.l0 k x0 x1 x5 x8 x9 (wrap64 (x10 + 1))))) else (none)) else (none)) else ((owned_Right.f k x0).bind fun t132 => (if t132 = true then (some x5) else (some (-1))))
def owned_Of.f (k : Nat) (l0 : List (S45)) (a1 : ByteArray) : Option (Int) := owned_Of.l0 k l0 a1 (-1) l0 (l0.length : Int) 0
theorem owned_Of.mono_l : ∀ k, (∀ y0 y1 y2 y3 y4 y5, LeO (owned_Of.l0 k y0 y1 y2 y3 y4 y5) (owned_Of.l0 (k + 1) y0 y1 y2 y3 y4 y5))
 | 0 => fun _ _ _ _ _ _ r h => by simp [owned_Of.l0] at h
 | k + 1 => by
  have ih0 := owned_Of.mono_l k
  ·intro y0 y1 y2 y3 y4 y5
   unfold owned_Of.l0
   repeat' first
   | (with_reducible exact ih0 _ _ _ _ _ _)
   | (with_reducible exact owned_Right.mono _ _)
   | (with_reducible exact path_In.mono _ _ _)
   | (with_reducible exact LeO.refl _)
   | (with_reducible exact LeO.none _)
   | (with_reducible refine LeO.ite ?_ ?_)
   | (with_reducible refine LeO.bind ?_ (fun _ => ?_))
   | exact ih0 _ _ _ _ _ _
   | exact owned_Right.mono _ _
   | exact path_In.mono _ _ _
   | exact LeO.none _
   | refine LeO.ite ?_ ?_
   | refine LeO.bind ?_ (fun _ => ?_)
theorem owned_Of.mono : ∀ a0 a1 k, LeO (owned_Of.f k a0 a1) (owned_Of.f (k + 1) a0 a1) := by
 intro a0 a1 k
 have ih0 := owned_Of.mono_l k
 unfold owned_Of.f
 repeat' first
   | (with_reducible exact ih0 _ _ _ _ _ _)
   | (with_reducible exact owned_Right.mono _ _)
   | (with_reducible exact path_In.mono _ _ _)
   | (with_reducible exact LeO.refl _)
   | (with_reducible exact LeO.none _)
   | (with_reducible refine LeO.ite ?_ ?_)
   | (with_reducible refine LeO.bind ?_ (fun _ => ?_))
   | exact ih0 _ _ _ _ _ _
   | exact owned_Right.mono _ _
   | exact path_In.mono _ _ _
   | exact LeO.none _
   | refine LeO.ite ?_ ?_
   | refine LeO.bind ?_ (fun _ => ?_)
def owned_Of.T5 : Bool × List (List Nat × List Nat) := (true, [([], []), ([], []), ([1], [1]), ([0, 2], [0, 2]), ([3, 3], [3]), ([4], [4]), ([5, 4], [4, 5]), ([6, 4, 4], [4, 6]), ([7], [7]), ([8, 7], [7, 8]), ([9, 7], [7, 9]), ([7], [7]), ([7], [7]), ([11, 12, 7], [7, 11, 12]), ([13, 7], [7, 13]), ([14, 7], [7, 14]), ([15, 7], [7, 15]), ([10, 16, 7], [7, 10, 16]), ([7, 17, 4], [4, 7, 17]), ([4, 18], [4, 18])])
def owned_Of.B5 : List Nat := [0, 0, 2, 7, 15, 31, 63, 127, 255, 511, 1023, 255, 255, 6399, 14591, 30975, 63743, 131071, 262143, 524287]
theorem owned_Of.tab5 : rtab .any (opsOf Try.f19 5) = owned_Of.T5 := by kernel_rfl
theorem owned_Of.bits5 : waitsOk owned_Of.T5.2 owned_Of.B5 = true := by kernel_rfl
set_option maxHeartbeats 8000000 in
set_option maxRecDepth 100000 in
theorem owned_Of.calls (k : Nat) (A0 : Option Addr) (c0 : Nat) (l0 : List (S45)) (a1 : ByteArray) (r : Int) (w : World) (hr0 : Kd.C k45 w A0 l0.length l0) (hc0 : l0.length ≤ c0) (h : owned_Of.f k l0 a1 = some r) :
  Calls Try.prog 19 #[.slice A0 l0.length c0, .string a1] w fun e w' => e = .returned (.int .i64 r) ∧ Below w.heap.size w w' := by
 have hu45 := Try.underlying45
 have HR0 := am_ hr0
 have HC0 := am_ hc0
 clear hr0 hc0
 have HB := am_ (Below.refl w.heap.size w)
 have H : (owned_Of.l0 k l0 a1 (-1) l0 (l0.length : Int) 0) = some r := h
 clear h
 have H' := am_ H
 clear H
 go_enter Try.func19, Try.ntmps19
 go_wp2
 go_loopg [5, 10] k (fun kq v5 v10 w' => ∃ (x5_1 : Int) (x10_1 : Int), v5 = .int .i64 x5_1 ∧ v10 = .int .i64 x10_1 ∧ Aside0 (owned_Of.l0 kq l0 a1 x5_1 l0 (l0.length : Int) x10_1 = some r) ∧ Aside0 (kq ≤ k) ∧ Aside0 (Below w.heap.size w w'))
 case atStart => exact ⟨((-1)), (0), e1_, e1_, H', ⟨Nat.le_refl _⟩, ⟨kZ HB⟩⟩
 case round =>
  clear H'
  try clear p2
  obtain ⟨x5_1, x10_1, rfl, rfl, HA, HK1, HB⟩ := hrel
  cases gk with
  | zero => exact absurd HA.out (by simp [owned_Of.l0])
  | succ k1 =>
   have H := HA.out
   clear HA
   simp only [owned_Of.l0] at H
   by_cases c3 : x10_1 < (l0.length : Int)
   rotate_left
   ·rw [if_neg c3] at H
    have c3b0 : decide (x10_1 < (l0.length : Int)) = false := decide_eq_false c3
    clear c3
    replace H := Option.bind_eq_some_iff.mp H
    obtain ⟨t132, A320, H⟩ := H
    replace H : (if t132 = true then (some x5_1) else (some (-1))) = some r := H
    have A32 := am_ A320
    clear A320
    by_cases c33 : t132 = true
    rotate_left
    ·replace c33 := Bool.eq_false_iff.mpr c33
     subst c33
     have H1 : (some (-1)) = some r := by rw [if_neg (show ¬ (false = true) by decide)] at H; exact H
     clear H
     have H := H1
     clear H1
     obtain rfl := Option.some.inj H
     go_wp2_with (first | ((with_reducible refine gate_callee (f := 17) rfl ?_); refine gL (some 38) Try.func17 #[.slice A0 l0.length c0] rfl rfl ?_; (with_reducible refine (owned_Right.calls k1 _ _ l0 false _ ?side1 ?side2 A32.out).mono ?_); (case side1 => exact kC ((Kd.C_below HR0.out HB.out))); (case side2 => exact HC0.out); rintro e w35 ⟨rfl, hb⟩; refine ⟨_, rfl, ?_⟩; have n0_ := am_ (below_step (kZ HB) hb); clear HB; have HB := n0_; clear n0_; (try clear hb); (try clear hb2); (try clear hk); (try clear hi)))
     go_ret
     exact ⟨e2_, kZ HB⟩

    subst c33
    have H1 : (some x5_1) = some r := by rw [if_pos rfl] at H; exact H
    clear H
    have H := H1
    clear H1
    obtain rfl := Option.some.inj H
    go_wp2_with (first | ((with_reducible refine gate_callee (f := 17) rfl ?_); refine gL (some 38) Try.func17 #[.slice A0 l0.length c0] rfl rfl ?_; (with_reducible refine (owned_Right.calls k1 _ _ l0 true _ ?side1 ?side2 A32.out).mono ?_); (case side1 => exact kC ((Kd.C_below HR0.out HB.out))); (case side2 => exact HC0.out); rintro e w34 ⟨rfl, hb⟩; refine ⟨_, rfl, ?_⟩; have n0_ := am_ (below_step (kZ HB) hb); clear HB; have HB := n0_; clear n0_; (try clear hb); (try clear hb2); (try clear hk); (try clear hi)))
    go_ret
    exact ⟨e2_, kZ HB⟩
   rw [if_pos c3] at H
   have c3b0 : decide (x10_1 < (l0.length : Int)) = true := decide_eq_true c3
   clear c3
   by_cases c4 : 0 ≤ x10_1
   rotate_left
   ·rw [if_neg c4] at H
    exact absurd H (by simp)
   rw [if_pos c4] at H
   have c4b0 : decide (0 ≤ x10_1) = true := decide_eq_true c4
   clear c4
   by_cases c5 : x10_1 < (l0.length : Int)
   rotate_left
   ·rw [if_neg c5] at H
    exact absurd H (by simp)
   rw [if_pos c5] at H
   have c5b0 : decide (x10_1 < (l0.length : Int)) = true := decide_eq_true c5
   clear c5
   replace H := Option.bind_eq_some_iff.mp H
   obtain ⟨t130, A60, H⟩ := H
   replace H : (if t130 = true then (if x5_1 < 0 then (owned_Of.l0 k1 l0 a1 x10_1 l0 (l0.length : Int) (wrap64 (x10_1 + 1))) else (if 0 ≤ x5_1 then (if x5_1 < (l0.length : Int) then (if (((rd_T45 l0 x10_1).f0).size : Int) > (((rd_T45 l0 x5_1).f0).size : Int) then (owned_Of.l0 k1 l0 a1 x10_1 l0 (l0.length : Int) (wrap64 (x10_1 + 1))) else (owned_Of.l0 k1 l0 a1 x5_1 l0 (l0.length : Int) (wrap64 (x10_1 + 1)))) else (none)) else (none))) else (owned_Of.l0 k1 l0 a1 x5_1 l0 (l0.length : Int) (wrap64 (x10_1 + 1)))) = some r := H
   have A6 := am_ A60
   clear A60
   by_cases c7 : t130 = true
   rotate_left
   ·replace c7 := Bool.eq_false_iff.mpr c7
    subst c7
    have H1 : (owned_Of.l0 k1 l0 a1 x5_1 l0 (l0.length : Int) (wrap64 (x10_1 + 1))) = some r := by rw [if_neg (show ¬ (false = true) by decide)] at H; exact H
    clear H
    have H := H1
    clear H1
    have H' := am_ H
    clear H
    have p128 : 0 ≤ (x10_1 : Int) := od_
    have q128 : x10_1 < (l0.length : Int) := od_
    obtain ⟨ad128, e128, hx128_0, hx128_1, hx128_2⟩ := at_T45 HR0.out x10_1 p128 q128
    cases e128
    replace hx128_0 := pw_cell_below HB.out hx128_0
    replace hx128_1 := pw_cell_below HB.out hx128_1
    replace hx128_2 := pw_cell_below HB.out hx128_2
    replace p128 := eq_true p128
    replace q128 := eq_true q128
    try go_wp2_with (first | ((with_reducible refine gate_dst (N := 7) rfl ?_); (try (refine gate_guard (by rfl) ?_; dsimp only)); refine box_event ?hg (N := 7) ?hd (cs := #[.string (⟨#[]⟩ : ByteArray), .int .i64 0, .int .i64 0]) (t := 45) ?hr ?_; (case hd => rfl); (case hg => rfl); (case hr => first | (go_simp; done) | (go_simp; rfl)); intro gb129 hg w27 hbox hb; have n0_ := am_ (below_step (kZ HB) hb); have n1_ := am_ (hbox); have n2_ := am_ (gW hg (kZ HB)); have n3_ := am_ (gW hg (kZ HB)); clear HB; have HB := n0_; have BK129 := n1_; have GW129 := n2_; have GE129 := n3_; clear n0_ n1_ n2_ n3_; clear hb hbox hg; have hcz28_0 : w27.cell? ⟨gb129, 0, none⟩ = some (.string (⟨#[]⟩ : ByteArray)) := (blk_cell BK129.out 0).trans rfl; have hcz28_1 : w27.cell? ⟨gb129, 1, none⟩ = some (.int .i64 0) := (blk_cell BK129.out 1).trans rfl; have hcz28_2 : w27.cell? ⟨gb129, 2, none⟩ = some (.int .i64 0) := (blk_cell BK129.out 2).trans rfl; have hfz28_0 := blk_frozen BK129.out 0; have hfz28_1 := blk_frozen BK129.out 1; have hfz28_2 := blk_frozen BK129.out 2))
    have n0_ : Aside0 ((((w27.setCell ⟨gb129, 0, none⟩ (.string ((rd_T45 l0 x10_1).f0))).setCell ⟨gb129, 1, none⟩ (.int .i64 ((rd_T45 l0 x10_1).f1))).setCell ⟨gb129, 2, none⟩ (.int .i64 ((rd_T45 l0 x10_1).f2))).heap[gb129]? = some (.cells #[.string ((rd_T45 l0 x10_1).f0), .int .i64 ((rd_T45 l0 x10_1).f1), .int .i64 ((rd_T45 l0 x10_1).f2)] 45 (0, 0))) := ⟨by refine kD ?_; refine blk_put (cs := #[.string ((rd_T45 l0 x10_1).f0), .int .i64 ((rd_T45 l0 x10_1).f1), .int .i64 0]) ?_ 2 _ rfl; refine kD ?_; refine blk_put (cs := #[.string ((rd_T45 l0 x10_1).f0), .int .i64 0, .int .i64 0]) ?_ 1 _ rfl; refine kD ?_; refine blk_put (cs := #[.string (⟨#[]⟩ : ByteArray), .int .i64 0, .int .i64 0]) ?_ 0 _ rfl; refine kD ?_; exact BK129.out⟩
    have n1_ : Aside0 (Below w.heap.size w (((w27.setCell ⟨gb129, 0, none⟩ (.string ((rd_T45 l0 x10_1).f0))).setCell ⟨gb129, 1, none⟩ (.int .i64 ((rd_T45 l0 x10_1).f1))).setCell ⟨gb129, 2, none⟩ (.int .i64 ((rd_T45 l0 x10_1).f2)))) := ⟨kZ HB⟩
    (try clear BK129)
    (try clear HB)
    generalize (((w27.setCell ⟨gb129, 0, none⟩ (.string ((rd_T45 l0 x10_1).f0))).setCell ⟨gb129, 1, none⟩ (.int .i64 ((rd_T45 l0 x10_1).f1))).setCell ⟨gb129, 2, none⟩ (.int .i64 ((rd_T45 l0 x10_1).f2))) = w29 at n0_ n1_ ⊢
    have BK129 := n0_
    have HB := n1_
    clear n0_ n1_
    have n0_ := am_ (blk_drew BK129.out)
    have n1_ := am_ (below_drew1 HB.out)
    clear BK129
    clear HB
    have BK129 := n0_
    have HB := n1_
    clear n0_ n1_
    refine start_ (n := 20) (S := fun w' => w'.cell? ⟨gb129, 0, none⟩ = some (.string ((rd_T45 l0 x10_1).f0)) ∧ w'.cell? ⟨gb129, 1, none⟩ = some (.int .i64 ((rd_T45 l0 x10_1).f1)) ∧ w'.cell? ⟨gb129, 2, none⟩ = some (.int .i64 ((rd_T45 l0 x10_1).f2))) (ds := []) x7tr20_0 (by kernel_rfl) rfl rfl ⟨(blk_cell BK129.out 0).trans rfl, (blk_cell BK129.out 1).trans rfl, (blk_cell BK129.out 2).trans rfl⟩ (fun hHeld => ?_); refine with_tabW owned_Of.tab5 owned_Of.bits5 (fun HT_ HW_ => ?_)
    generalize w29.drew = w30 at BK129 HB hHeld ⊢
    refine pA_ 0 15 x7tr20_1 HT_.out ?_
    refine pA_ 1 16 x7tr20_2 HT_.out ?_
    refine tA_ 2 17 x7tr20_3 HT_.out HW_.out hHeld ?_
    refine one_ (i := 3) (N := some 18) x7tr20_4 rfl rfl (one_of HT_.out (by kernel_rfl)) (by decide) (fun K hK => ?_)
    refine goes_ Try.func37 (by kernel_rfl) rfl #[.string a1, .string ((rd_T45 l0 x10_1).f0)] (by rfl) rfl rfl m_ ?_
    with_reducible refine (path_In.calls k1 a1 ((rd_T45 l0 x10_1).f0) false _ A6.out).mono ?_
    rintro e w31 ⟨rfl, hb⟩
    refine ⟨_, rfl, ?_⟩
    have n0_ := am_ (blk_below (kB BK129) hb)
    have n1_ := am_ (below_step (kZ HB) hb)
    clear BK129
    clear HB
    have BK129 := n0_
    have HB := n1_
    clear n0_ n1_
    (try clear hb)
    (try clear hb2)
    (try clear hk)
    (try clear hi)
    refine hK.out _ _ ⟨(blk_cell BK129.out 0).trans rfl, (blk_cell BK129.out 1).trans rfl, (blk_cell BK129.out 2).trans rfl⟩ (fun hHeld => ?_)
    clear hK K
    refine norm_ (a' := ?_) ?_ ?_
    rotate_left
    ·show Act.put _ (some 18) _ = _
     simp only [Act.put, List.setIfInBounds_toArray, List.set_cons_zero, List.set_cons_succ, i64_w, i32_w]
     rfl
    refine pA_ 4 19 x7tr20_5 HT_.out ?_
    refine pU_ 5 20 x7tr20_6 HT_.out ?_
    refine pU_ 6 21 x7tr20_7 HT_.out ?_
    refine pU_ 7 22 x7tr20_8 HT_.out ?_
    refine pU_ 8 23 x7tr20_9 HT_.out ?_
    refine pU_ 9 24 x7tr20_10 HT_.out ?_
    refine pU_ 10 25 x7tr20_11 HT_.out ?_
    refine pU_ 11 26 x7tr20_12 HT_.out ?_
    refine pU_ 12 27 x7tr20_13 HT_.out ?_
    refine pU_ 13 28 x7tr20_14 HT_.out ?_
    refine pU_ 14 29 x7tr20_15 HT_.out ?_
    refine pU_ 15 30 x7tr20_16 HT_.out ?_
    refine pU_ 16 31 x7tr20_17 HT_.out ?_
    refine pU_ 17 32 x7tr20_18 HT_.out ?_
    refine pU_ 18 33 x7tr20_19 HT_.out ?_
    refine pA_ 19 34 x7tr20_20 HT_.out ?_
    refine done_ (done_of HT_.out (by kernel_rfl)) ?_
    try go_wp2
    go_roundg k1
    case measure => have := HK1.out; omega
    case rel => exact ⟨(x5_1), (wrap64 (x10_1 + 1)), e1_, e1_, H', ⟨by have := HK1.out; omega⟩, ⟨kZ HB⟩⟩
   subst c7
   have H1 : (if x5_1 < 0 then (owned_Of.l0 k1 l0 a1 x10_1 l0 (l0.length : Int) (wrap64 (x10_1 + 1))) else (if 0 ≤ x5_1 then (if x5_1 < (l0.length : Int) then (if (((rd_T45 l0 x10_1).f0).size : Int) > (((rd_T45 l0 x5_1).f0).size : Int) then (owned_Of.l0 k1 l0 a1 x10_1 l0 (l0.length : Int) (wrap64 (x10_1 + 1))) else (owned_Of.l0 k1 l0 a1 x5_1 l0 (l0.length : Int) (wrap64 (x10_1 + 1)))) else (none)) else (none))) = some r := by rw [if_pos rfl] at H; exact H
   clear H
   have H := H1
   clear H1
   by_cases c8 : x5_1 < 0
   rotate_left
   ·rw [if_neg c8] at H
    have c8b0 : decide (x5_1 < 0) = false := decide_eq_false c8
    clear c8
    by_cases c14 : 0 ≤ x5_1
    rotate_left
    ·rw [if_neg c14] at H
     exact absurd H (by simp)
    rw [if_pos c14] at H
    have c14b0 : decide (0 ≤ x5_1) = true := decide_eq_true c14
    clear c14
    by_cases c15 : x5_1 < (l0.length : Int)
    rotate_left
    ·rw [if_neg c15] at H
     exact absurd H (by simp)
    rw [if_pos c15] at H
    have c15b0 : decide (x5_1 < (l0.length : Int)) = true := decide_eq_true c15
    clear c15
    by_cases c16 : (((rd_T45 l0 x10_1).f0).size : Int) > (((rd_T45 l0 x5_1).f0).size : Int)
    rotate_left
    ·rw [if_neg c16] at H
     have c16b0 : decide ((((rd_T45 l0 x5_1).f0).size : Int) < (((rd_T45 l0 x10_1).f0).size : Int)) = false := decide_eq_false c16
     have c16b1 : decide (((rd_T45 l0 x5_1).f0).size < ((rd_T45 l0 x10_1).f0).size) = false := decide_eq_false (fun h => c16 (Int.ofNat_lt.mpr h))
     clear c16
     have H' := am_ H
     clear H
     have p128 : 0 ≤ (x10_1 : Int) := od_
     have q128 : x10_1 < (l0.length : Int) := od_
     obtain ⟨ad128, e128, hx128_0, hx128_1, hx128_2⟩ := at_T45 HR0.out x10_1 p128 q128
     cases e128
     replace hx128_0 := pw_cell_below HB.out hx128_0
     replace hx128_1 := pw_cell_below HB.out hx128_1
     replace hx128_2 := pw_cell_below HB.out hx128_2
     replace p128 := eq_true p128
     replace q128 := eq_true q128
     try go_wp2_with (first | ((with_reducible refine gate_dst (N := 7) rfl ?_); (try (refine gate_guard (by rfl) ?_; dsimp only)); refine box_event ?hg (N := 7) ?hd (cs := #[.string (⟨#[]⟩ : ByteArray), .int .i64 0, .int .i64 0]) (t := 45) ?hr ?_; (case hd => rfl); (case hg => rfl); (case hr => first | (go_simp; done) | (go_simp; rfl)); intro gb129 hg w22 hbox hb; have n0_ := am_ (below_step (kZ HB) hb); have n1_ := am_ (hbox); have n2_ := am_ (gW hg (kZ HB)); have n3_ := am_ (gW hg (kZ HB)); clear HB; have HB := n0_; have BK129 := n1_; have GW129 := n2_; have GE129 := n3_; clear n0_ n1_ n2_ n3_; clear hb hbox hg; have hcz23_0 : w22.cell? ⟨gb129, 0, none⟩ = some (.string (⟨#[]⟩ : ByteArray)) := (blk_cell BK129.out 0).trans rfl; have hcz23_1 : w22.cell? ⟨gb129, 1, none⟩ = some (.int .i64 0) := (blk_cell BK129.out 1).trans rfl; have hcz23_2 : w22.cell? ⟨gb129, 2, none⟩ = some (.int .i64 0) := (blk_cell BK129.out 2).trans rfl; have hfz23_0 := blk_frozen BK129.out 0; have hfz23_1 := blk_frozen BK129.out 1; have hfz23_2 := blk_frozen BK129.out 2))
     have n0_ : Aside0 ((((w22.setCell ⟨gb129, 0, none⟩ (.string ((rd_T45 l0 x10_1).f0))).setCell ⟨gb129, 1, none⟩ (.int .i64 ((rd_T45 l0 x10_1).f1))).setCell ⟨gb129, 2, none⟩ (.int .i64 ((rd_T45 l0 x10_1).f2))).heap[gb129]? = some (.cells #[.string ((rd_T45 l0 x10_1).f0), .int .i64 ((rd_T45 l0 x10_1).f1), .int .i64 ((rd_T45 l0 x10_1).f2)] 45 (0, 0))) := ⟨by refine kD ?_; refine blk_put (cs := #[.string ((rd_T45 l0 x10_1).f0), .int .i64 ((rd_T45 l0 x10_1).f1), .int .i64 0]) ?_ 2 _ rfl; refine kD ?_; refine blk_put (cs := #[.string ((rd_T45 l0 x10_1).f0), .int .i64 0, .int .i64 0]) ?_ 1 _ rfl; refine kD ?_; refine blk_put (cs := #[.string (⟨#[]⟩ : ByteArray), .int .i64 0, .int .i64 0]) ?_ 0 _ rfl; refine kD ?_; exact BK129.out⟩
     have n1_ : Aside0 (Below w.heap.size w (((w22.setCell ⟨gb129, 0, none⟩ (.string ((rd_T45 l0 x10_1).f0))).setCell ⟨gb129, 1, none⟩ (.int .i64 ((rd_T45 l0 x10_1).f1))).setCell ⟨gb129, 2, none⟩ (.int .i64 ((rd_T45 l0 x10_1).f2)))) := ⟨kZ HB⟩
     (try clear BK129)
     (try clear HB)
     generalize (((w22.setCell ⟨gb129, 0, none⟩ (.string ((rd_T45 l0 x10_1).f0))).setCell ⟨gb129, 1, none⟩ (.int .i64 ((rd_T45 l0 x10_1).f1))).setCell ⟨gb129, 2, none⟩ (.int .i64 ((rd_T45 l0 x10_1).f2))) = w24 at n0_ n1_ ⊢
     have BK129 := n0_
     have HB := n1_
     clear n0_ n1_
     have n0_ := am_ (blk_drew BK129.out)
     have n1_ := am_ (below_drew1 HB.out)
     clear BK129
     clear HB
     have BK129 := n0_
     have HB := n1_
     clear n0_ n1_
     have p131 : 0 ≤ (x5_1 : Int) := od_
     have q131 : x5_1 < (l0.length : Int) := od_
     obtain ⟨ad131, e131, hx131_0, hx131_1, hx131_2⟩ := at_T45 HR0.out x5_1 p131 q131
     have hw131_2 := hx131_2
     have hw131_1 := hx131_1
     have hw131_0 := hx131_0
     obtain rfl : ad128 = ad131 := (by injection e131)
     replace hx131_0 := pw_cell_below HB.out hx131_0
     replace hx131_1 := pw_cell_below HB.out hx131_1
     replace hx131_2 := pw_cell_below HB.out hx131_2
     replace p131 := eq_true p131
     replace q131 := eq_true q131
     refine start_ (n := 20) (S := fun w' => w'.cell? ⟨gb129, 0, none⟩ = some (.string ((rd_T45 l0 x10_1).f0)) ∧ w'.cell? ⟨gb129, 1, none⟩ = some (.int .i64 ((rd_T45 l0 x10_1).f1)) ∧ w'.cell? ⟨gb129, 2, none⟩ = some (.int .i64 ((rd_T45 l0 x10_1).f2)) ∧ w'.cell? (ad128.add ((x5_1).toNat * 3)) = some (.string ((rd_T45 l0 x5_1).f0)) ∧ w'.cell? ⟨(ad128.add ((x5_1).toNat * 3)).block, (ad128.add ((x5_1).toNat * 3)).off + 1, none⟩ = some (.int .i64 ((rd_T45 l0 x5_1).f1)) ∧ w'.cell? ⟨(ad128.add ((x5_1).toNat * 3)).block, (ad128.add ((x5_1).toNat * 3)).off + 2, none⟩ = some (.int .i64 ((rd_T45 l0 x5_1).f2))) (ds := []) x7tr20_0 (by kernel_rfl) rfl rfl ⟨(blk_cell BK129.out 0).trans rfl, (blk_cell BK129.out 1).trans rfl, (blk_cell BK129.out 2).trans rfl, (pw_cell_below HB.out hw131_0), (pw_cell_below HB.out hw131_1), (pw_cell_below HB.out hw131_2)⟩ (fun hHeld => ?_); refine with_tabW owned_Of.tab5 owned_Of.bits5 (fun HT_ HW_ => ?_)
     generalize w24.drew = w25 at BK129 HB hx131_0 hx131_1 hx131_2 hHeld ⊢
     refine pA_ 0 15 x7tr20_1 HT_.out ?_
     refine pA_ 1 16 x7tr20_2 HT_.out ?_
     refine tA_ 2 17 x7tr20_3 HT_.out HW_.out hHeld ?_
     refine one_ (i := 3) (N := some 18) x7tr20_4 rfl rfl (one_of HT_.out (by kernel_rfl)) (by decide) (fun K hK => ?_)
     refine goes_ Try.func37 (by kernel_rfl) rfl #[.string a1, .string ((rd_T45 l0 x10_1).f0)] (by rfl) rfl rfl m_ ?_
     with_reducible refine (path_In.calls k1 a1 ((rd_T45 l0 x10_1).f0) true _ A6.out).mono ?_
     rintro e w26 ⟨rfl, hb⟩
     refine ⟨_, rfl, ?_⟩
     have n0_ := am_ (blk_below (kB BK129) hb)
     have n1_ := am_ (below_step (kZ HB) hb)
     clear BK129
     clear HB
     have BK129 := n0_
     have HB := n1_
     clear n0_ n1_
     (try clear hb)
     (try clear hb2)
     (try clear hk)
     (try clear hi)
     refine hK.out _ _ ⟨(blk_cell BK129.out 0).trans rfl, (blk_cell BK129.out 1).trans rfl, (blk_cell BK129.out 2).trans rfl, (pw_cell_below HB.out hw131_0), (pw_cell_below HB.out hw131_1), (pw_cell_below HB.out hw131_2)⟩ (fun hHeld => ?_)
     clear hK K
     refine norm_ (a' := ?_) ?_ ?_
     rotate_left
     ·show Act.put _ (some 18) _ = _
      simp only [Act.put, List.setIfInBounds_toArray, List.set_cons_zero, List.set_cons_succ, i64_w, i32_w]
      rfl
     refine pA_ 4 19 x7tr20_5 HT_.out ?_
     refine pA_ 5 20 x7tr20_6 HT_.out ?_
     refine pA_ 6 21 x7tr20_7 HT_.out ?_
     refine pA_ 7 22 x7tr20_8 HT_.out ?_
     refine pA_ 8 23 x7tr20_9 HT_.out ?_
     refine pA_ 11 26 x7tr20_m11111111100100000000 HT_.out ?_
     refine pA_ 12 27 x7tr20_m11111111100110000000 HT_.out ?_
     refine pA_ 13 28 x7tr20_m11111111100111000000 HT_.out ?_
     refine pA_ 14 29 x7tr20_m11111111100111100000 HT_.out ?_
     refine tA_ 9 24 x7tr20_m11111111110111100000 HT_.out HW_.out hHeld ?_
     refine pA_ 10 25 x7tr20_15 HT_.out ?_
     refine tA_ 15 30 x7tr20_16 HT_.out HW_.out hHeld ?_
     refine pA_ 16 31 x7tr20_17 HT_.out ?_
     refine pA_ 17 32 x7tr20_18 HT_.out ?_
     refine pA_ 18 33 x7tr20_19 HT_.out ?_
     refine pA_ 19 34 x7tr20_20 HT_.out ?_
     refine done_ (done_of HT_.out (by kernel_rfl)) ?_
     try go_wp2
     go_roundg k1
     case measure => have := HK1.out; omega
     case rel => exact ⟨(x5_1), (wrap64 (x10_1 + 1)), e1_, e1_, H', ⟨by have := HK1.out; omega⟩, ⟨kZ HB⟩⟩
    rw [if_pos c16] at H
    have c16b0 : decide ((((rd_T45 l0 x5_1).f0).size : Int) < (((rd_T45 l0 x10_1).f0).size : Int)) = true := decide_eq_true c16
    have c16b1 : decide (((rd_T45 l0 x5_1).f0).size < ((rd_T45 l0 x10_1).f0).size) = true := decide_eq_true (Int.ofNat_lt.mp c16)
    clear c16
    have H' := am_ H
    clear H
    have p128 : 0 ≤ (x10_1 : Int) := od_
    have q128 : x10_1 < (l0.length : Int) := od_
    obtain ⟨ad128, e128, hx128_0, hx128_1, hx128_2⟩ := at_T45 HR0.out x10_1 p128 q128
    cases e128
    replace hx128_0 := pw_cell_below HB.out hx128_0
    replace hx128_1 := pw_cell_below HB.out hx128_1
    replace hx128_2 := pw_cell_below HB.out hx128_2
    replace p128 := eq_true p128
    replace q128 := eq_true q128
    try go_wp2_with (first | ((with_reducible refine gate_dst (N := 7) rfl ?_); (try (refine gate_guard (by rfl) ?_; dsimp only)); refine box_event ?hg (N := 7) ?hd (cs := #[.string (⟨#[]⟩ : ByteArray), .int .i64 0, .int .i64 0]) (t := 45) ?hr ?_; (case hd => rfl); (case hg => rfl); (case hr => first | (go_simp; done) | (go_simp; rfl)); intro gb129 hg w17 hbox hb; have n0_ := am_ (below_step (kZ HB) hb); have n1_ := am_ (hbox); have n2_ := am_ (gW hg (kZ HB)); have n3_ := am_ (gW hg (kZ HB)); clear HB; have HB := n0_; have BK129 := n1_; have GW129 := n2_; have GE129 := n3_; clear n0_ n1_ n2_ n3_; clear hb hbox hg; have hcz18_0 : w17.cell? ⟨gb129, 0, none⟩ = some (.string (⟨#[]⟩ : ByteArray)) := (blk_cell BK129.out 0).trans rfl; have hcz18_1 : w17.cell? ⟨gb129, 1, none⟩ = some (.int .i64 0) := (blk_cell BK129.out 1).trans rfl; have hcz18_2 : w17.cell? ⟨gb129, 2, none⟩ = some (.int .i64 0) := (blk_cell BK129.out 2).trans rfl; have hfz18_0 := blk_frozen BK129.out 0; have hfz18_1 := blk_frozen BK129.out 1; have hfz18_2 := blk_frozen BK129.out 2))
    have n0_ : Aside0 ((((w17.setCell ⟨gb129, 0, none⟩ (.string ((rd_T45 l0 x10_1).f0))).setCell ⟨gb129, 1, none⟩ (.int .i64 ((rd_T45 l0 x10_1).f1))).setCell ⟨gb129, 2, none⟩ (.int .i64 ((rd_T45 l0 x10_1).f2))).heap[gb129]? = some (.cells #[.string ((rd_T45 l0 x10_1).f0), .int .i64 ((rd_T45 l0 x10_1).f1), .int .i64 ((rd_T45 l0 x10_1).f2)] 45 (0, 0))) := ⟨by refine kD ?_; refine blk_put (cs := #[.string ((rd_T45 l0 x10_1).f0), .int .i64 ((rd_T45 l0 x10_1).f1), .int .i64 0]) ?_ 2 _ rfl; refine kD ?_; refine blk_put (cs := #[.string ((rd_T45 l0 x10_1).f0), .int .i64 0, .int .i64 0]) ?_ 1 _ rfl; refine kD ?_; refine blk_put (cs := #[.string (⟨#[]⟩ : ByteArray), .int .i64 0, .int .i64 0]) ?_ 0 _ rfl; refine kD ?_; exact BK129.out⟩
    have n1_ : Aside0 (Below w.heap.size w (((w17.setCell ⟨gb129, 0, none⟩ (.string ((rd_T45 l0 x10_1).f0))).setCell ⟨gb129, 1, none⟩ (.int .i64 ((rd_T45 l0 x10_1).f1))).setCell ⟨gb129, 2, none⟩ (.int .i64 ((rd_T45 l0 x10_1).f2)))) := ⟨kZ HB⟩
    (try clear BK129)
    (try clear HB)
    generalize (((w17.setCell ⟨gb129, 0, none⟩ (.string ((rd_T45 l0 x10_1).f0))).setCell ⟨gb129, 1, none⟩ (.int .i64 ((rd_T45 l0 x10_1).f1))).setCell ⟨gb129, 2, none⟩ (.int .i64 ((rd_T45 l0 x10_1).f2))) = w19 at n0_ n1_ ⊢
    have BK129 := n0_
    have HB := n1_
    clear n0_ n1_
    have n0_ := am_ (blk_drew BK129.out)
    have n1_ := am_ (below_drew1 HB.out)
    clear BK129
    clear HB
    have BK129 := n0_
    have HB := n1_
    clear n0_ n1_
    have p131 : 0 ≤ (x5_1 : Int) := od_
    have q131 : x5_1 < (l0.length : Int) := od_
    obtain ⟨ad131, e131, hx131_0, hx131_1, hx131_2⟩ := at_T45 HR0.out x5_1 p131 q131
    have hw131_2 := hx131_2
    have hw131_1 := hx131_1
    have hw131_0 := hx131_0
    obtain rfl : ad128 = ad131 := (by injection e131)
    replace hx131_0 := pw_cell_below HB.out hx131_0
    replace hx131_1 := pw_cell_below HB.out hx131_1
    replace hx131_2 := pw_cell_below HB.out hx131_2
    replace p131 := eq_true p131
    replace q131 := eq_true q131
    refine start_ (n := 20) (S := fun w' => w'.cell? ⟨gb129, 0, none⟩ = some (.string ((rd_T45 l0 x10_1).f0)) ∧ w'.cell? ⟨gb129, 1, none⟩ = some (.int .i64 ((rd_T45 l0 x10_1).f1)) ∧ w'.cell? ⟨gb129, 2, none⟩ = some (.int .i64 ((rd_T45 l0 x10_1).f2)) ∧ w'.cell? (ad128.add ((x5_1).toNat * 3)) = some (.string ((rd_T45 l0 x5_1).f0)) ∧ w'.cell? ⟨(ad128.add ((x5_1).toNat * 3)).block, (ad128.add ((x5_1).toNat * 3)).off + 1, none⟩ = some (.int .i64 ((rd_T45 l0 x5_1).f1)) ∧ w'.cell? ⟨(ad128.add ((x5_1).toNat * 3)).block, (ad128.add ((x5_1).toNat * 3)).off + 2, none⟩ = some (.int .i64 ((rd_T45 l0 x5_1).f2))) (ds := []) x7tr20_0 (by kernel_rfl) rfl rfl ⟨(blk_cell BK129.out 0).trans rfl, (blk_cell BK129.out 1).trans rfl, (blk_cell BK129.out 2).trans rfl, (pw_cell_below HB.out hw131_0), (pw_cell_below HB.out hw131_1), (pw_cell_below HB.out hw131_2)⟩ (fun hHeld => ?_); refine with_tabW owned_Of.tab5 owned_Of.bits5 (fun HT_ HW_ => ?_)
    generalize w19.drew = w20 at BK129 HB hx131_0 hx131_1 hx131_2 hHeld ⊢
    refine pA_ 0 15 x7tr20_1 HT_.out ?_
    refine pA_ 1 16 x7tr20_2 HT_.out ?_
    refine tA_ 2 17 x7tr20_3 HT_.out HW_.out hHeld ?_
    refine one_ (i := 3) (N := some 18) x7tr20_4 rfl rfl (one_of HT_.out (by kernel_rfl)) (by decide) (fun K hK => ?_)
    refine goes_ Try.func37 (by kernel_rfl) rfl #[.string a1, .string ((rd_T45 l0 x10_1).f0)] (by rfl) rfl rfl m_ ?_
    with_reducible refine (path_In.calls k1 a1 ((rd_T45 l0 x10_1).f0) true _ A6.out).mono ?_
    rintro e w21 ⟨rfl, hb⟩
    refine ⟨_, rfl, ?_⟩
    have n0_ := am_ (blk_below (kB BK129) hb)
    have n1_ := am_ (below_step (kZ HB) hb)
    clear BK129
    clear HB
    have BK129 := n0_
    have HB := n1_
    clear n0_ n1_
    (try clear hb)
    (try clear hb2)
    (try clear hk)
    (try clear hi)
    refine hK.out _ _ ⟨(blk_cell BK129.out 0).trans rfl, (blk_cell BK129.out 1).trans rfl, (blk_cell BK129.out 2).trans rfl, (pw_cell_below HB.out hw131_0), (pw_cell_below HB.out hw131_1), (pw_cell_below HB.out hw131_2)⟩ (fun hHeld => ?_)
    clear hK K
    refine norm_ (a' := ?_) ?_ ?_
    rotate_left
    ·show Act.put _ (some 18) _ = _
     simp only [Act.put, List.setIfInBounds_toArray, List.set_cons_zero, List.set_cons_succ, i64_w, i32_w]
     rfl
    refine pA_ 4 19 x7tr20_5 HT_.out ?_
    refine pA_ 5 20 x7tr20_6 HT_.out ?_
    refine pA_ 6 21 x7tr20_7 HT_.out ?_
    refine pA_ 7 22 x7tr20_8 HT_.out ?_
    refine pA_ 8 23 x7tr20_9 HT_.out ?_
    refine pA_ 11 26 x7tr20_m11111111100100000000 HT_.out ?_
    refine pA_ 12 27 x7tr20_m11111111100110000000 HT_.out ?_
    refine pA_ 13 28 x7tr20_m11111111100111000000 HT_.out ?_
    refine pA_ 14 29 x7tr20_m11111111100111100000 HT_.out ?_
    refine tA_ 9 24 x7tr20_m11111111110111100000 HT_.out HW_.out hHeld ?_
    refine pA_ 10 25 x7tr20_15 HT_.out ?_
    refine tA_ 15 30 x7tr20_16 HT_.out HW_.out hHeld ?_
    refine pA_ 16 31 x7tr20_17 HT_.out ?_
    refine pA_ 17 32 x7tr20_18 HT_.out ?_
    refine pA_ 18 33 x7tr20_19 HT_.out ?_
    refine pA_ 19 34 x7tr20_20 HT_.out ?_
    refine done_ (done_of HT_.out (by kernel_rfl)) ?_
    try go_wp2
    go_roundg k1
    case measure => have := HK1.out; omega
    case rel => exact ⟨(x10_1), (wrap64 (x10_1 + 1)), e1_, e1_, H', ⟨by have := HK1.out; omega⟩, ⟨kZ HB⟩⟩
   rw [if_pos c8] at H
   have c8b0 : decide (x5_1 < 0) = true := decide_eq_true c8
   clear c8
   have H' := am_ H
   clear H
   have p128 : 0 ≤ (x10_1 : Int) := od_
   have q128 : x10_1 < (l0.length : Int) := od_
   obtain ⟨ad128, e128, hx128_0, hx128_1, hx128_2⟩ := at_T45 HR0.out x10_1 p128 q128
   cases e128
   replace hx128_0 := pw_cell_below HB.out hx128_0
   replace hx128_1 := pw_cell_below HB.out hx128_1
   replace hx128_2 := pw_cell_below HB.out hx128_2
   replace p128 := eq_true p128
   replace q128 := eq_true q128
   try go_wp2_with (first | ((with_reducible refine gate_dst (N := 7) rfl ?_); (try (refine gate_guard (by rfl) ?_; dsimp only)); refine box_event ?hg (N := 7) ?hd (cs := #[.string (⟨#[]⟩ : ByteArray), .int .i64 0, .int .i64 0]) (t := 45) ?hr ?_; (case hd => rfl); (case hg => rfl); (case hr => first | (go_simp; done) | (go_simp; rfl)); intro gb129 hg w9 hbox hb; have n0_ := am_ (below_step (kZ HB) hb); have n1_ := am_ (hbox); have n2_ := am_ (gW hg (kZ HB)); have n3_ := am_ (gW hg (kZ HB)); clear HB; have HB := n0_; have BK129 := n1_; have GW129 := n2_; have GE129 := n3_; clear n0_ n1_ n2_ n3_; clear hb hbox hg; have hcz10_0 : w9.cell? ⟨gb129, 0, none⟩ = some (.string (⟨#[]⟩ : ByteArray)) := (blk_cell BK129.out 0).trans rfl; have hcz10_1 : w9.cell? ⟨gb129, 1, none⟩ = some (.int .i64 0) := (blk_cell BK129.out 1).trans rfl; have hcz10_2 : w9.cell? ⟨gb129, 2, none⟩ = some (.int .i64 0) := (blk_cell BK129.out 2).trans rfl; have hfz10_0 := blk_frozen BK129.out 0; have hfz10_1 := blk_frozen BK129.out 1; have hfz10_2 := blk_frozen BK129.out 2))
   have n0_ : Aside0 ((((w9.setCell ⟨gb129, 0, none⟩ (.string ((rd_T45 l0 x10_1).f0))).setCell ⟨gb129, 1, none⟩ (.int .i64 ((rd_T45 l0 x10_1).f1))).setCell ⟨gb129, 2, none⟩ (.int .i64 ((rd_T45 l0 x10_1).f2))).heap[gb129]? = some (.cells #[.string ((rd_T45 l0 x10_1).f0), .int .i64 ((rd_T45 l0 x10_1).f1), .int .i64 ((rd_T45 l0 x10_1).f2)] 45 (0, 0))) := ⟨by refine kD ?_; refine blk_put (cs := #[.string ((rd_T45 l0 x10_1).f0), .int .i64 ((rd_T45 l0 x10_1).f1), .int .i64 0]) ?_ 2 _ rfl; refine kD ?_; refine blk_put (cs := #[.string ((rd_T45 l0 x10_1).f0), .int .i64 0, .int .i64 0]) ?_ 1 _ rfl; refine kD ?_; refine blk_put (cs := #[.string (⟨#[]⟩ : ByteArray), .int .i64 0, .int .i64 0]) ?_ 0 _ rfl; refine kD ?_; exact BK129.out⟩
   have n1_ : Aside0 (Below w.heap.size w (((w9.setCell ⟨gb129, 0, none⟩ (.string ((rd_T45 l0 x10_1).f0))).setCell ⟨gb129, 1, none⟩ (.int .i64 ((rd_T45 l0 x10_1).f1))).setCell ⟨gb129, 2, none⟩ (.int .i64 ((rd_T45 l0 x10_1).f2)))) := ⟨kZ HB⟩
   (try clear BK129)
   (try clear HB)
   generalize (((w9.setCell ⟨gb129, 0, none⟩ (.string ((rd_T45 l0 x10_1).f0))).setCell ⟨gb129, 1, none⟩ (.int .i64 ((rd_T45 l0 x10_1).f1))).setCell ⟨gb129, 2, none⟩ (.int .i64 ((rd_T45 l0 x10_1).f2))) = w11 at n0_ n1_ ⊢
   have BK129 := n0_
   have HB := n1_
   clear n0_ n1_
   have n0_ := am_ (blk_drew BK129.out)
   have n1_ := am_ (below_drew1 HB.out)
   clear BK129
   clear HB
   have BK129 := n0_
   have HB := n1_
   clear n0_ n1_
   refine start_ (n := 20) (S := fun w' => w'.cell? ⟨gb129, 0, none⟩ = some (.string ((rd_T45 l0 x10_1).f0)) ∧ w'.cell? ⟨gb129, 1, none⟩ = some (.int .i64 ((rd_T45 l0 x10_1).f1)) ∧ w'.cell? ⟨gb129, 2, none⟩ = some (.int .i64 ((rd_T45 l0 x10_1).f2))) (ds := []) x7tr20_0 (by kernel_rfl) rfl rfl ⟨(blk_cell BK129.out 0).trans rfl, (blk_cell BK129.out 1).trans rfl, (blk_cell BK129.out 2).trans rfl⟩ (fun hHeld => ?_); refine with_tabW owned_Of.tab5 owned_Of.bits5 (fun HT_ HW_ => ?_)
   generalize w11.drew = w12 at BK129 HB hHeld ⊢
   refine pA_ 0 15 x7tr20_1 HT_.out ?_
   refine pA_ 1 16 x7tr20_2 HT_.out ?_
   refine tA_ 2 17 x7tr20_3 HT_.out HW_.out hHeld ?_
   refine one_ (i := 3) (N := some 18) x7tr20_4 rfl rfl (one_of HT_.out (by kernel_rfl)) (by decide) (fun K hK => ?_)
   refine goes_ Try.func37 (by kernel_rfl) rfl #[.string a1, .string ((rd_T45 l0 x10_1).f0)] (by rfl) rfl rfl m_ ?_
   with_reducible refine (path_In.calls k1 a1 ((rd_T45 l0 x10_1).f0) true _ A6.out).mono ?_
   rintro e w13 ⟨rfl, hb⟩
   refine ⟨_, rfl, ?_⟩
   have n0_ := am_ (blk_below (kB BK129) hb)
   have n1_ := am_ (below_step (kZ HB) hb)
   clear BK129
   clear HB
   have BK129 := n0_
   have HB := n1_
   clear n0_ n1_
   (try clear hb)
   (try clear hb2)
   (try clear hk)
   (try clear hi)
   refine hK.out _ _ ⟨(blk_cell BK129.out 0).trans rfl, (blk_cell BK129.out 1).trans rfl, (blk_cell BK129.out 2).trans rfl⟩ (fun hHeld => ?_)
   clear hK K
   refine norm_ (a' := ?_) ?_ ?_
   rotate_left
   ·show Act.put _ (some 18) _ = _
    simp only [Act.put, List.setIfInBounds_toArray, List.set_cons_zero, List.set_cons_succ, i64_w, i32_w]
    rfl
   refine pA_ 4 19 x7tr20_5 HT_.out ?_
   refine pA_ 5 20 x7tr20_6 HT_.out ?_
   refine pA_ 6 21 x7tr20_7 HT_.out ?_
   refine pA_ 7 22 x7tr20_8 HT_.out ?_
   refine pU_ 8 23 x7tr20_9 HT_.out ?_
   refine pU_ 9 24 x7tr20_10 HT_.out ?_
   refine pU_ 10 25 x7tr20_11 HT_.out ?_
   refine pU_ 11 26 x7tr20_12 HT_.out ?_
   refine pU_ 12 27 x7tr20_13 HT_.out ?_
   refine pU_ 13 28 x7tr20_14 HT_.out ?_
   refine pU_ 14 29 x7tr20_15 HT_.out ?_
   refine pU_ 15 30 x7tr20_16 HT_.out ?_
   refine pU_ 16 31 x7tr20_17 HT_.out ?_
   refine pU_ 17 32 x7tr20_18 HT_.out ?_
   refine pA_ 18 33 x7tr20_19 HT_.out ?_
   refine pA_ 19 34 x7tr20_20 HT_.out ?_
   refine done_ (done_of HT_.out (by kernel_rfl)) ?_
   try go_wp2
   go_roundg k1
   case measure => have := HK1.out; omega
   case rel => exact ⟨(x10_1), (wrap64 (x10_1 + 1)), e1_, e1_, H', ⟨by have := HK1.out; omega⟩, ⟨kZ HB⟩⟩
end Go.Proofs.Ytinjajpnbbknnaa.Q
