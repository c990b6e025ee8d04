-- Written by a program of this session (xprint) out of the translation; over contracts proved by hand.
import Derived.KernelRfl
import Derived.Test.YtpkaedpgpncgpaaQx0
import Derived.Test.YtpkaedpgpncgpaaQx3
import Derived.Test.YtpkaedpgpncgpaaQx5
import Derived.Test.YtpkaedpgpncgpaaMBegin4
import Derived.Test.YtpkaedpgpncgpaaMFlip2
namespace Go.Proofs.Ytpkaedpgpncgpaa.MBegin
end Go.Proofs.Ytpkaedpgpncgpaa.MBegin
namespace Go.Proofs.Ytpkaedpgpncgpaa.Split
end Go.Proofs.Ytpkaedpgpncgpaa.Split
namespace Go.Proofs.Ytpkaedpgpncgpaa.Q
open Go.Proofs.Ytpkaedpgpncgpaa.MBegin Go.Proofs.Ytpkaedpgpncgpaa.Split
set_option linter.unnecessarySimpa false
open Go.RowKit Go.Proofs.YtpkaedpgpncgpaaW.PrintWords Go.Proofs.YtpkaedpgpncgpaaW.PrintLast Go.Proofs.YtpkaedpgpncgpaaW.PrintMore
attribute [local go_sem] max2_int min2_int max_two min_two max_three min_three max_four min_four   -- for this text's walks alone
set_option linter.unusedVariables false
set_option linter.unusedSimpArgs false

/-! ### cantonlaw14_head: function 8 -/
def cantonlaw14_head.f (k : Nat)  : Option (Bool) := (mounts_Begin.f (([(⟨(⟨#[47]⟩ : ByteArray), 0, 1, 0⟩ : S27)] : List (S27))) (⟨#[47, 97]⟩ : ByteArray) 1).bind fun bt130 => ((mounts_Begin.f bt130.1 (⟨#[47]⟩ : ByteArray) 2).bind fun bt139 => ((mounts_Flip.f bt130.1 (⟨#[47, 97]⟩ : ByteArray) 1 1).bind fun bt148 => ((mounts_Flip.f bt148.1 (⟨#[47, 97]⟩ : ByteArray) 1 1).bind fun bt152 => ((mounts_Flip.f bt148.1 (⟨#[47, 98]⟩ : ByteArray) 1 1).bind fun bt156 => (if bt130.2.2.2.2.2 = 0 then (if bt130.2.2.1 = 0 then (if bt130.2.2.2.2.1 = 1 then (if (bt130.1.length : Int) = 2 then (if bt139.2.2.2.2.2 = 131 then (if bt148.2 = 0 then (if 1 < (bt148.1.length : Int) then (if ((rd_T27 bt148.1 1).f1) = 1 then (if ((rd_T27 bt148.1 1).f2) = 2 then (if bt152.2 = 0 then (if bt156.2 = 133 then ((mounts_Of.f k bt148.1 (⟨#[47, 97, 47, 98]⟩ : ByteArray)).bind fun t162 => (if t162 = 1 then ((mounts_Right.f k bt148.1).bind fun t163 => (some t163)) else (some false))) else (some false)) else (some false)) else (some false)) else (some false)) else (none)) else (some false)) else (some false)) else (some false)) else (some false)) else (some false)) else (some false))))))
theorem cantonlaw14_head.mono : ∀ k, LeO (cantonlaw14_head.f k ) (cantonlaw14_head.f (k + 1) ) := by
 intro  k
 unfold cantonlaw14_head.f
 repeat' first
   | (with_reducible exact mounts_Of.mono _ _ _)
   | (with_reducible exact mounts_Right.mono _ _)
   | (with_reducible exact LeO.refl _)
   | (with_reducible exact LeO.none _)
   | (with_reducible refine LeO.ite ?_ ?_)
   | (with_reducible refine LeO.bind ?_ (fun _ => ?_))
   | exact mounts_Of.mono _ _ _
   | exact mounts_Right.mono _ _
   | exact LeO.none _
   | refine LeO.ite ?_ ?_
   | refine LeO.bind ?_ (fun _ => ?_)
set_option maxHeartbeats 8000000 in
set_option maxRecDepth 100000 in
theorem cantonlaw14_head.calls_true (k : Nat)  (r : Bool) (w : World) (hr : r = true) (h : cantonlaw14_head.f k  = some r) :
  Calls Try.prog 8 #[] w fun e w' => e = .returned (.bool r) ∧ Below w.heap.size w w' := by
 have hu27 := Try.underlying27
 have HB := Aside0.mk (Below.refl w.heap.size w)
 have H : ((mounts_Begin.f (([(⟨(⟨#[47]⟩ : ByteArray), 0, 1, 0⟩ : S27)] : List (S27))) (⟨#[47, 97]⟩ : ByteArray) 1).bind fun bt130 => ((mounts_Begin.f bt130.1 (⟨#[47]⟩ : ByteArray) 2).bind fun bt139 => ((mounts_Flip.f bt130.1 (⟨#[47, 97]⟩ : ByteArray) 1 1).bind fun bt148 => ((mounts_Flip.f bt148.1 (⟨#[47, 97]⟩ : ByteArray) 1 1).bind fun bt152 => ((mounts_Flip.f bt148.1 (⟨#[47, 98]⟩ : ByteArray) 1 1).bind fun bt156 => (if bt130.2.2.2.2.2 = 0 then (if bt130.2.2.1 = 0 then (if bt130.2.2.2.2.1 = 1 then (if (bt130.1.length : Int) = 2 then (if bt139.2.2.2.2.2 = 131 then (if bt148.2 = 0 then (if 1 < (bt148.1.length : Int) then (if ((rd_T27 bt148.1 1).f1) = 1 then (if ((rd_T27 bt148.1 1).f2) = 2 then (if bt152.2 = 0 then (if bt156.2 = 133 then ((mounts_Of.f k bt148.1 (⟨#[47, 97, 47, 98]⟩ : ByteArray)).bind fun t162 => (if t162 = 1 then ((mounts_Right.f k bt148.1).bind fun t163 => (some t163)) else (some false))) else (some false)) else (some false)) else (some false)) else (some false)) else (none)) else (some false)) else (some false)) else (some false)) else (some false)) else (some false)) else (some false))))))) = some r := h
 clear h
 obtain ⟨y127, hy127⟩ : ∃ y_ : List (S27), y_ = (([(⟨(⟨#[47]⟩ : ByteArray), 0, 1, 0⟩ : S27)] : List (S27))) := ⟨_, rfl⟩
 replace H : ((mounts_Begin.f y127 (⟨#[47, 97]⟩ : ByteArray) 1).bind fun bt130 => ((mounts_Begin.f bt130.1 (⟨#[47]⟩ : ByteArray) 2).bind fun bt139 => ((mounts_Flip.f bt130.1 (⟨#[47, 97]⟩ : ByteArray) 1 1).bind fun bt148 => ((mounts_Flip.f bt148.1 (⟨#[47, 97]⟩ : ByteArray) 1 1).bind fun bt152 => ((mounts_Flip.f bt148.1 (⟨#[47, 98]⟩ : ByteArray) 1 1).bind fun bt156 => (if bt130.2.2.2.2.2 = 0 then (if bt130.2.2.1 = 0 then (if bt130.2.2.2.2.1 = 1 then (if (bt130.1.length : Int) = 2 then (if bt139.2.2.2.2.2 = 131 then (if bt148.2 = 0 then (if 1 < (bt148.1.length : Int) then (if ((rd_T27 bt148.1 1).f1) = 1 then (if ((rd_T27 bt148.1 1).f2) = 2 then (if bt152.2 = 0 then (if bt156.2 = 133 then ((mounts_Of.f k bt148.1 (⟨#[47, 97, 47, 98]⟩ : ByteArray)).bind fun t162 => (if t162 = 1 then ((mounts_Right.f k bt148.1).bind fun t163 => (some t163)) else (some false))) else (some false)) else (some false)) else (some false)) else (some false)) else (none)) else (some false)) else (some false)) else (some false)) else (some false)) else (some false)) else (some false))))))) = some r := by first | (rw [hy127]; with_reducible exact H) | (have H2_ := (Option.bind_some _ _).symm.trans H; rw [hy127]; with_reducible exact H2_) | (have H2_ := (Option.bind_some _ _).symm.trans H; with_reducible exact H2_) | with_reducible exact H | (rw [hy127]; exact H) | exact H
 have Ny127 := Aside0.mk hy127
 clear hy127
 replace H := Option.bind_eq_some_iff.mp H
 obtain ⟨⟨t130, t133, t134, t135, t136, t137⟩, A10, H⟩ := H
 replace H : ((mounts_Begin.f t130 (⟨#[47]⟩ : ByteArray) 2).bind fun bt139 => ((mounts_Flip.f t130 (⟨#[47, 97]⟩ : ByteArray) 1 1).bind fun bt148 => ((mounts_Flip.f bt148.1 (⟨#[47, 97]⟩ : ByteArray) 1 1).bind fun bt152 => ((mounts_Flip.f bt148.1 (⟨#[47, 98]⟩ : ByteArray) 1 1).bind fun bt156 => (if t137 = 0 then (if t134 = 0 then (if t136 = 1 then (if (t130.length : Int) = 2 then (if bt139.2.2.2.2.2 = 131 then (if bt148.2 = 0 then (if 1 < (bt148.1.length : Int) then (if ((rd_T27 bt148.1 1).f1) = 1 then (if ((rd_T27 bt148.1 1).f2) = 2 then (if bt152.2 = 0 then (if bt156.2 = 133 then ((mounts_Of.f k bt148.1 (⟨#[47, 97, 47, 98]⟩ : ByteArray)).bind fun t162 => (if t162 = 1 then ((mounts_Right.f k bt148.1).bind fun t163 => (some t163)) else (some false))) else (some false)) else (some false)) else (some false)) else (some false)) else (none)) else (some false)) else (some false)) else (some false)) else (some false)) else (some false)) else (some false)))))) = some r := H
 have A1 := Aside0.mk A10
 clear A10
 replace H := Option.bind_eq_some_iff.mp H
 obtain ⟨⟨t139, t142, t143, t144, t145, t146⟩, A20, H⟩ := H
 replace H : ((mounts_Flip.f t130 (⟨#[47, 97]⟩ : ByteArray) 1 1).bind fun bt148 => ((mounts_Flip.f bt148.1 (⟨#[47, 97]⟩ : ByteArray) 1 1).bind fun bt152 => ((mounts_Flip.f bt148.1 (⟨#[47, 98]⟩ : ByteArray) 1 1).bind fun bt156 => (if t137 = 0 then (if t134 = 0 then (if t136 = 1 then (if (t130.length : Int) = 2 then (if t146 = 131 then (if bt148.2 = 0 then (if 1 < (bt148.1.length : Int) then (if ((rd_T27 bt148.1 1).f1) = 1 then (if ((rd_T27 bt148.1 1).f2) = 2 then (if bt152.2 = 0 then (if bt156.2 = 133 then ((mounts_Of.f k bt148.1 (⟨#[47, 97, 47, 98]⟩ : ByteArray)).bind fun t162 => (if t162 = 1 then ((mounts_Right.f k bt148.1).bind fun t163 => (some t163)) else (some false))) else (some false)) else (some false)) else (some false)) else (some false)) else (none)) else (some false)) else (some false)) else (some false)) else (some false)) else (some false)) else (some false))))) = some r := H
 have A2 := Aside0.mk A20
 clear A20
 replace H := Option.bind_eq_some_iff.mp H
 obtain ⟨⟨t148, t151⟩, A30, H⟩ := H
 replace H : ((mounts_Flip.f t148 (⟨#[47, 97]⟩ : ByteArray) 1 1).bind fun bt152 => ((mounts_Flip.f t148 (⟨#[47, 98]⟩ : ByteArray) 1 1).bind fun bt156 => (if t137 = 0 then (if t134 = 0 then (if t136 = 1 then (if (t130.length : Int) = 2 then (if t146 = 131 then (if t151 = 0 then (if 1 < (t148.length : Int) then (if ((rd_T27 t148 1).f1) = 1 then (if ((rd_T27 t148 1).f2) = 2 then (if bt152.2 = 0 then (if bt156.2 = 133 then ((mounts_Of.f k t148 (⟨#[47, 97, 47, 98]⟩ : ByteArray)).bind fun t162 => (if t162 = 1 then ((mounts_Right.f k t148).bind fun t163 => (some t163)) else (some false))) else (some false)) else (some false)) else (some false)) else (some false)) else (none)) else (some false)) else (some false)) else (some false)) else (some false)) else (some false)) else (some false)))) = some r := H
 have A3 := Aside0.mk A30
 clear A30
 replace H := Option.bind_eq_some_iff.mp H
 obtain ⟨⟨t152, t155⟩, A40, H⟩ := H
 replace H : ((mounts_Flip.f t148 (⟨#[47, 98]⟩ : ByteArray) 1 1).bind fun bt156 => (if t137 = 0 then (if t134 = 0 then (if t136 = 1 then (if (t130.length : Int) = 2 then (if t146 = 131 then (if t151 = 0 then (if 1 < (t148.length : Int) then (if ((rd_T27 t148 1).f1) = 1 then (if ((rd_T27 t148 1).f2) = 2 then (if t155 = 0 then (if bt156.2 = 133 then ((mounts_Of.f k t148 (⟨#[47, 97, 47, 98]⟩ : ByteArray)).bind fun t162 => (if t162 = 1 then ((mounts_Right.f k t148).bind fun t163 => (some t163)) else (some false))) else (some false)) else (some false)) else (some false)) else (some false)) else (none)) else (some false)) else (some false)) else (some false)) else (some false)) else (some false)) else (some false))) = some r := H
 have A4 := Aside0.mk A40
 clear A40
 replace H := Option.bind_eq_some_iff.mp H
 obtain ⟨⟨t156, t159⟩, A50, H⟩ := H
 replace H : (if t137 = 0 then (if t134 = 0 then (if t136 = 1 then (if (t130.length : Int) = 2 then (if t146 = 131 then (if t151 = 0 then (if 1 < (t148.length : Int) then (if ((rd_T27 t148 1).f1) = 1 then (if ((rd_T27 t148 1).f2) = 2 then (if t155 = 0 then (if t159 = 133 then ((mounts_Of.f k t148 (⟨#[47, 97, 47, 98]⟩ : ByteArray)).bind fun t162 => (if t162 = 1 then ((mounts_Right.f k t148).bind fun t163 => (some t163)) else (some false))) else (some false)) else (some false)) else (some false)) else (some false)) else (none)) else (some false)) else (some false)) else (some false)) else (some false)) else (some false)) else (some false)) = some r := H
 have A5 := Aside0.mk A50
 clear A50
 by_cases c6 : t137 = 0
 ·rw [if_pos c6] at H
  have c6b0 : (t137 == 0) = true := beq_iff_eq.mpr c6
  have c6b1 : (t137 != 0) = false := bne_eq_false_iff_eq.mpr c6
  clear c6
  by_cases c7 : t134 = 0
  ·rw [if_pos c7] at H
   have c7b0 : (t134 == 0) = true := beq_iff_eq.mpr c7
   have c7b1 : (t134 != 0) = false := bne_eq_false_iff_eq.mpr c7
   clear c7
   by_cases c8 : t136 = 1
   ·rw [if_pos c8] at H
    have c8b0 : (t136 == 1) = true := beq_iff_eq.mpr c8
    have c8b1 : (t136 != 1) = false := bne_eq_false_iff_eq.mpr c8
    clear c8
    by_cases c9 : (t130.length : Int) = 2
    ·rw [if_pos c9] at H
     have c9b0 : ((t130.length : Int) == 2) = true := beq_iff_eq.mpr c9
     have c9b1 : ((t130.length : Int) != 2) = false := bne_eq_false_iff_eq.mpr c9
     clear c9
     by_cases c10 : t146 = 131
     ·rw [if_pos c10] at H
      have c10b0 : (t146 == 131) = true := beq_iff_eq.mpr c10
      have c10b1 : (t146 != 131) = false := bne_eq_false_iff_eq.mpr c10
      clear c10
      by_cases c11 : t151 = 0
      ·rw [if_pos c11] at H
       have c11b0 : (t151 == 0) = true := beq_iff_eq.mpr c11
       have c11b1 : (t151 != 0) = false := bne_eq_false_iff_eq.mpr c11
       clear c11
       by_cases c12 : 1 < (t148.length : Int)
       ·rw [if_pos c12] at H
        have c12b0 : decide (1 < (t148.length : Int)) = true := decide_eq_true c12
        have c12b1 : decide (1 < t148.length) = true := decide_eq_true (by omega)
        clear c12
        by_cases c13 : ((rd_T27 t148 1).f1) = 1
        ·rw [if_pos c13] at H
         have c13b0 : (((rd_T27 t148 1).f1) == 1) = true := beq_iff_eq.mpr c13
         have c13b1 : (((rd_T27 t148 1).f1) != 1) = false := bne_eq_false_iff_eq.mpr c13
         clear c13
         by_cases c14 : ((rd_T27 t148 1).f2) = 2
         ·rw [if_pos c14] at H
          have c14b0 : (((rd_T27 t148 1).f2) == 2) = true := beq_iff_eq.mpr c14
          have c14b1 : (((rd_T27 t148 1).f2) != 2) = false := bne_eq_false_iff_eq.mpr c14
          clear c14
          by_cases c15 : t155 = 0
          ·rw [if_pos c15] at H
           have c15b0 : (t155 == 0) = true := beq_iff_eq.mpr c15
           have c15b1 : (t155 != 0) = false := bne_eq_false_iff_eq.mpr c15
           clear c15
           by_cases c16 : t159 = 133
           ·rw [if_pos c16] at H
            have c16b0 : (t159 == 133) = true := beq_iff_eq.mpr c16
            have c16b1 : (t159 != 133) = false := bne_eq_false_iff_eq.mpr c16
            clear c16
            replace H := Option.bind_eq_some_iff.mp H
            obtain ⟨t162, A170, H⟩ := H
            replace H : (if t162 = 1 then ((mounts_Right.f k t148).bind fun t163 => (some t163)) else (some false)) = some r := H
            have A17 := Aside0.mk A170
            clear A170
            by_cases c18 : t162 = 1
            ·rw [if_pos c18] at H
             have c18b0 : (t162 == 1) = true := beq_iff_eq.mpr c18
             have c18b1 : (t162 != 1) = false := bne_eq_false_iff_eq.mpr c18
             clear c18
             replace H := Option.bind_eq_some_iff.mp H
             obtain ⟨t163, A190, H⟩ := H
             replace H : (some t163) = some r := H
             have A19 := Aside0.mk A190
             clear A190
             obtain rfl := Option.some.inj H
             go_enter Try.func8, Try.ntmps8
             go_wp2_with (first | ((with_reducible refine gate_dst (N := 15) rfl ?_); (try (refine gate_guard (by rfl) ?_; dsimp only)); refine Kd.R_lit k27 _ 27 ?hg (N := 15) ?hd (xs := ([(⟨(⟨#[47]⟩ : ByteArray), 0, 1, 0⟩ : S27)] : List (S27))) (inner := [.string (⟨#[47]⟩ : ByteArray), .int .i64 0, .int .i64 1, .int .i64 0]) (ok := fun _ => True) (okp := fun _ => True) ?hr ?hp (fun _ hk => hk) trivial (Below.refl _ _) (Nat.le_refl _) (by simp) ?_; (case hd => rfl); (case hg => rfl); (case hr => first | (go_simp; done) | (go_simp; rfl)); (case hp => exact (Reps.c4 (show Kd.M k27 _ _ _ (⟨(⟨#[47]⟩ : ByteArray), 0, 1, 0⟩ : S27) [.string (⟨#[47]⟩ : ByteArray), .int .i64 0, .int .i64 1, .int .i64 0] from (k27_mkM _ _ _ (⟨(⟨#[47]⟩ : ByteArray), 0, 1, 0⟩ : S27) )) (Reps.none _ _))); intro v128 w20 ho21 hb hg_ hnew_; clear hg_ hnew_; (first | rw [← Ny127.out] at ho21 | (simp only [Int.reduceToNat] at ho21; rw [← Ny127.out] at ho21)); have n0_ := Aside0.mk (Kd.R_lower ho21 (below_size (by repeat (first | (with_reducible first | exact HB.out | apply below_alloc | apply pw_below_drewN | apply below_drew1) | exact HB.out)))); have n1_ := Aside0.mk (below_step (by repeat (first | (with_reducible first | exact HB.out | apply below_alloc | apply pw_below_drewN | apply below_drew1) | exact HB.out)) hb); clear HB; have HO129 := n0_; have HB := n1_; clear n0_ n1_; clear hb ho21; obtain ⟨Ao22, co22, eo22⟩ := Kd.R_slice HO129.out; subst eo22) | ((with_reducible refine gate_callee (f := 12) rfl ?_); refine goesL_ (some 18) rfl rfl Try.func12 (by kernel_rfl) rfl #[.slice Ao22 y127.length co22, .string (⟨#[47, 97]⟩ : ByteArray), .int .i64 1] rfl (by (try simp only [List.map_toArray, List.map_cons, List.map_nil]); first | done | rfl | (simp only [List.length_drop, List.length_take]; rfl)) ?_; (with_reducible refine (mounts_Begin.calls (fun k_ => some k_ = (.slice Ao22 y127.length co22 : Value).ownBlock) _ _ y127 (⟨#[47, 97]⟩ : ByteArray) 1 t130 t133 t134 t135 t136 t137 _ ?side1 A1.out).mono ?_); (case side1 => exact Kd.R_V (Kd.R_tight rfl (HO129.out))); rintro e w23 ⟨v131, rfl, ho0, hb⟩; refine ⟨_, rfl, ?_⟩; have n0_ := Aside0.mk (Kd.R_below (by (with_reducible repeat (first | apply Kd.R_alloc | apply Kd.R_drewN | apply Kd.R_drew)); exact HO129.out) hb); have n1_ := Aside0.mk (Kd.V_lower (Kd.V_mono (ok' := fun k_ => True) ho0 (fun k_ hk_ => trivial)) (below_size (by repeat (first | (with_reducible first | exact HB.out | apply below_alloc | apply pw_below_drewN | apply below_drew1) | exact HB.out)))); have n2_ := Aside0.mk (below_step (by repeat (first | (with_reducible first | exact HB.out | apply below_alloc | apply pw_below_drewN | apply below_drew1) | exact HB.out)) hb); clear HO129; clear HB; have HO129 := n0_; have HO132 := n1_; have HB := n2_; clear n0_ n1_ n2_; (try clear hb); (try clear hb2); (try clear hk); (try clear hi); (try clear ho0)) | ((with_reducible refine gate_dst (N := 3) rfl ?_); (try (refine gate_guard (by rfl) ?_; dsimp only)); refine box_event ?hg (N := 3) ?hd (cs := #[.string (⟨#[]⟩ : ByteArray), .int .i64 0, .int .i64 0, .int .i64 0]) (t := 27) ?hr ?_; (case hd => rfl); (case hg => rfl); (case hr => first | (go_simp; done) | (go_simp; rfl)); intro gb138 hg w24 hbox hb; have n0_ := Aside0.mk (Kd.R_below (Kd.R_elderB (by (with_reducible repeat (first | apply Kd.R_alloc | apply Kd.R_drewN | apply Kd.R_drew)); exact HO129.out) gb138 (Nat.le_of_eq hg.symm)) hb); have n1_ := Aside0.mk (Kd.V_below (Kd.V_elderB (by (with_reducible repeat (first | apply Kd.V_alloc | apply Kd.V_drewN | apply Kd.V_drew)); exact HO132.out) gb138 (Nat.le_of_eq hg.symm)) hb); have n2_ := Aside0.mk (below_step (by repeat (first | (with_reducible first | exact HB.out | apply below_alloc | apply pw_below_drewN | apply below_drew1) | exact HB.out)) hb); have n3_ := Aside0.mk (hbox); have n4_ := Aside0.mk ((by rw [hg]; exact (below_size (by repeat (first | (with_reducible first | exact HB.out | apply below_alloc | apply pw_below_drewN | apply below_drew1) | exact HB.out))) : w.heap.size ≤ gb138)); have n5_ := Aside0.mk ((by rw [hg]; exact (below_size (by repeat (first | (with_reducible first | exact HB.out | apply below_alloc | apply pw_below_drewN | apply below_drew1) | exact HB.out))) : w.heap.size ≤ gb138)); clear HO129; clear HO132; clear HB; have HO129 := n0_; have HO132 := n1_; have HB := n2_; have BK138 := n3_; have GW138 := n4_; have GE138 := n5_; clear n0_ n1_ n2_ n3_ n4_ n5_; clear hb hbox hg; have hcz25_0 : w24.cell? ⟨gb138, 0, none⟩ = some (.string (⟨#[]⟩ : ByteArray)) := (blk_cell BK138.out 0).trans rfl; have hcz25_1 : w24.cell? ⟨gb138, 1, none⟩ = some (.int .i64 0) := (blk_cell BK138.out 1).trans rfl; have hcz25_2 : w24.cell? ⟨gb138, 2, none⟩ = some (.int .i64 0) := (blk_cell BK138.out 2).trans rfl; have hcz25_3 : w24.cell? ⟨gb138, 3, none⟩ = some (.int .i64 0) := (blk_cell BK138.out 3).trans rfl; have hfz25_0 := blk_frozen BK138.out 0; have hfz25_1 := blk_frozen BK138.out 1; have hfz25_2 := blk_frozen BK138.out 2; have hfz25_3 := blk_frozen BK138.out 3) | ((with_reducible refine gate_store (t := 27) (p := 3) rfl ?_); refine store_event (t := 27) (p := 3) (v := ?vo_w26) (w1 := ((((w24.setCell ⟨gb138, 0, none⟩ (.string t133)).setCell ⟨gb138, 1, none⟩ (.int .i64 t134)).setCell ⟨gb138, 2, none⟩ (.int .i64 t135)).setCell ⟨gb138, 3, none⟩ (.int .i64 t136))) ?hg ?ho ?hn ?hr ?_; (case ho => rfl); (case hg => rfl); (case hn => rfl); (case hr => first | (go_simp; done) | (go_simp; rfl)); intro w26 hw; have n0_ : Aside0 (Kd.R k27 27 w26 w.heap.size (fun k_ => k_ ≠ gb138) (.slice Ao22 y127.length co22) y127) := ⟨(by rw [hw]; exact (by (with_reducible repeat (first | apply Kd.R_alloc | apply Kd.R_drewN | apply Kd.R_drew)); exact Kd.R_mono (Kd.R_far (p := ⟨gb138, 3, none⟩) (Kd.R_far (p := ⟨gb138, 2, none⟩) (Kd.R_far (p := ⟨gb138, 1, none⟩) (Kd.R_far (p := ⟨gb138, 0, none⟩) (Kd.R_mono HO129.out (fun k_ hk => (⟨hk, hk.2⟩ : _ ∧ k_ ≠ gb138))) (fun _ hk => hk.2) (.string t133)) (fun _ hk => hk.2) (.int .i64 t134)) (fun _ hk => hk.2) (.int .i64 t135)) (fun _ hk => hk.2) (.int .i64 t136)) (fun _ hk => hk.1.2)))⟩; have n1_ : Aside0 (Kd.V k27 27 w26 w.heap.size (fun k_ => k_ ≠ gb138) v131 t130) := ⟨(by rw [hw]; exact (by (with_reducible repeat (first | apply Kd.V_alloc | apply Kd.V_drewN | apply Kd.V_drew)); exact Kd.V_mono (Kd.V_far (p := ⟨gb138, 3, none⟩) (Kd.V_far (p := ⟨gb138, 2, none⟩) (Kd.V_far (p := ⟨gb138, 1, none⟩) (Kd.V_far (p := ⟨gb138, 0, none⟩) (Kd.V_mono HO132.out (fun k_ hk => (⟨hk, hk.2⟩ : _ ∧ k_ ≠ gb138))) (fun _ hk => hk.2) (.string t133)) (fun _ hk => hk.2) (.int .i64 t134)) (fun _ hk => hk.2) (.int .i64 t135)) (fun _ hk => hk.2) (.int .i64 t136)) (fun _ hk => hk.1.2)))⟩; have n2_ : Aside0 (w26.heap[gb138]? = some (.cells #[.string t133, .int .i64 t134, .int .i64 t135, .int .i64 t136] 27 (0, 0))) := ⟨(by rw [hw]; exact (by (with_reducible repeat (first | refine blk_drewN ?_ _ | refine blk_drew ?_ | refine blk_alloc ?_ _)); refine blk_put (cs := #[.string t133, .int .i64 t134, .int .i64 t135, .int .i64 0]) ?_ 3 _ rfl; (with_reducible repeat (first | refine blk_drewN ?_ _ | refine blk_drew ?_ | refine blk_alloc ?_ _)); refine blk_put (cs := #[.string t133, .int .i64 t134, .int .i64 0, .int .i64 0]) ?_ 2 _ rfl; (with_reducible repeat (first | refine blk_drewN ?_ _ | refine blk_drew ?_ | refine blk_alloc ?_ _)); refine blk_put (cs := #[.string t133, .int .i64 0, .int .i64 0, .int .i64 0]) ?_ 1 _ rfl; (with_reducible repeat (first | refine blk_drewN ?_ _ | refine blk_drew ?_ | refine blk_alloc ?_ _)); refine blk_put (cs := #[.string (⟨#[]⟩ : ByteArray), .int .i64 0, .int .i64 0, .int .i64 0]) ?_ 0 _ rfl; (with_reducible repeat (first | refine blk_drewN ?_ _ | refine blk_drew ?_ | refine blk_alloc ?_ _)); exact BK138.out))⟩; have n3_ : Aside0 (Below w.heap.size w w26) := ⟨(by rw [hw]; exact (by repeat (first | (with_reducible first | exact HB.out | apply below_alloc | apply pw_below_drewN | apply below_drew1 | refine below_set ?_ GE138.out) | exact HB.out)))⟩; clear hw; clear HO129; clear HO132; clear BK138; clear HB; have HO129 := n0_; have HO132 := n1_; have BK138 := n2_; have HB := n3_; clear n0_ n1_ n2_ n3_; obtain ⟨Ao27, co27, eo27⟩ := Kd.V_slice HO132.out; subst eo27) | ((with_reducible refine gate_callee (f := 12) rfl ?_); refine goesL_ (some 24) rfl rfl Try.func12 (by kernel_rfl) rfl #[.slice Ao27 t130.length co27, .string (⟨#[47]⟩ : ByteArray), .int .i64 2] rfl (by (try simp only [List.map_toArray, List.map_cons, List.map_nil]); first | done | rfl | (simp only [List.length_drop, List.length_take]; rfl)) ?_; (with_reducible refine (mounts_Begin.calls (fun k_ => k_ ≠ gb138) _ _ t130 (⟨#[47]⟩ : ByteArray) 2 t139 t142 t143 t144 t145 t146 _ ?side1 A2.out).mono ?_); (case side1 => exact HO132.out); rintro e w28 ⟨v140, rfl, ho0, hb⟩; refine ⟨_, rfl, ?_⟩; have n0_ := Aside0.mk (Kd.R_below (by (with_reducible repeat (first | apply Kd.R_alloc | apply Kd.R_drewN | apply Kd.R_drew)); exact HO129.out) hb); have n1_ := Aside0.mk (Kd.V_below (by (with_reducible repeat (first | apply Kd.V_alloc | apply Kd.V_drewN | apply Kd.V_drew)); exact HO132.out) hb); have n2_ := Aside0.mk (Kd.V_lower (Kd.V_mono (ok' := fun k_ => k_ ≠ gb138) ho0 (fun k_ hk_ => Or.elim hk_ (fun hs_ => hs_) (fun hn_ => (Kd.freshB (g := gb138) (o := .cells #[.string t133, .int .i64 t134, .int .i64 t135, .int .i64 t136] 27 (0, 0)) (by (with_reducible repeat (first | refine blk_drewN ?_ _ | refine blk_drew ?_ | refine blk_alloc ?_ _)); exact BK138.out) k_ hn_)))) (below_size (by repeat (first | (with_reducible first | exact HB.out | apply below_alloc | apply pw_below_drewN | apply below_drew1 | refine below_set ?_ GE138.out) | exact HB.out)))); have n3_ := Aside0.mk (blk_below (g := gb138) (o := .cells #[.string t133, .int .i64 t134, .int .i64 t135, .int .i64 t136] 27 (0, 0)) (by (with_reducible repeat (first | refine blk_drewN ?_ _ | refine blk_drew ?_ | refine blk_alloc ?_ _)); exact BK138.out) hb); have n4_ := Aside0.mk (below_step (by repeat (first | (with_reducible first | exact HB.out | apply below_alloc | apply pw_below_drewN | apply below_drew1 | refine below_set ?_ GE138.out) | exact HB.out)) hb); clear HO129; clear HO132; clear BK138; clear HB; have HO129 := n0_; have HO132 := n1_; have HO141 := n2_; have BK138 := n3_; have HB := n4_; clear n0_ n1_ n2_ n3_ n4_; (try clear hb); (try clear hb2); (try clear hk); (try clear hi); (try clear ho0)) | ((with_reducible refine gate_dst (N := 6) rfl ?_); (try (refine gate_guard (by rfl) ?_; dsimp only)); refine box_event ?hg (N := 6) ?hd (cs := #[.string (⟨#[]⟩ : ByteArray), .int .i64 0, .int .i64 0, .int .i64 0]) (t := 27) ?hr ?_; (case hd => rfl); (case hg => rfl); (case hr => first | (go_simp; done) | (go_simp; rfl)); intro gb147 hg w29 hbox hb; have n0_ := Aside0.mk (Kd.R_below (Kd.R_elderB (by (with_reducible repeat (first | apply Kd.R_alloc | apply Kd.R_drewN | apply Kd.R_drew)); exact HO129.out) gb147 (Nat.le_of_eq hg.symm)) hb); have n1_ := Aside0.mk (Kd.V_below (Kd.V_elderB (by (with_reducible repeat (first | apply Kd.V_alloc | apply Kd.V_drewN | apply Kd.V_drew)); exact HO132.out) gb147 (Nat.le_of_eq hg.symm)) hb); have n2_ := Aside0.mk (Kd.V_below (Kd.V_elderB (by (with_reducible repeat (first | apply Kd.V_alloc | apply Kd.V_drewN | apply Kd.V_drew)); exact HO141.out) gb147 (Nat.le_of_eq hg.symm)) hb); have n3_ := Aside0.mk (blk_below (g := gb138) (o := .cells #[.string t133, .int .i64 t134, .int .i64 t135, .int .i64 t136] 27 (0, 0)) (by (with_reducible repeat (first | refine blk_drewN ?_ _ | refine blk_drew ?_ | refine blk_alloc ?_ _)); exact BK138.out) hb); have n4_ := Aside0.mk (below_step (by repeat (first | (with_reducible first | exact HB.out | apply below_alloc | apply pw_below_drewN | apply below_drew1 | refine below_set ?_ GE138.out) | exact HB.out)) hb); have n5_ := Aside0.mk (hbox); have n6_ := Aside0.mk ((by rw [hg]; exact (below_size (by repeat (first | (with_reducible first | exact HB.out | apply below_alloc | apply pw_below_drewN | apply below_drew1 | refine below_set ?_ GE138.out) | exact HB.out))) : w.heap.size ≤ gb147)); have n7_ := Aside0.mk ((by rw [hg]; exact (below_size (by repeat (first | (with_reducible first | exact HB.out | apply below_alloc | apply pw_below_drewN | apply below_drew1 | refine below_set ?_ GE138.out) | exact HB.out))) : w.heap.size ≤ gb147)); have n8_ := Aside0.mk ((by rw [hg]; exact Nat.ne_of_lt (blk_lt (g := gb138) (o := .cells #[.string t133, .int .i64 t134, .int .i64 t135, .int .i64 t136] 27 (0, 0)) (by (with_reducible repeat (first | refine blk_drewN ?_ _ | refine blk_drew ?_ | refine blk_alloc ?_ _)); exact BK138.out)) : gb138 ≠ gb147)); have n9_ := Aside0.mk ((by rw [hg]; exact Nat.ne_of_gt (blk_lt (g := gb138) (o := .cells #[.string t133, .int .i64 t134, .int .i64 t135, .int .i64 t136] 27 (0, 0)) (by (with_reducible repeat (first | refine blk_drewN ?_ _ | refine blk_drew ?_ | refine blk_alloc ?_ _)); exact BK138.out)) : gb147 ≠ gb138)); clear HO129; clear HO132; clear HO141; clear BK138; clear HB; have HO129 := n0_; have HO132 := n1_; have HO141 := n2_; have BK138 := n3_; have HB := n4_; have BK147 := n5_; have GW147 := n6_; have GE147 := n7_; have NB138_147 := n8_; have NB147_138 := n9_; clear n0_ n1_ n2_ n3_ n4_ n5_ n6_ n7_ n8_ n9_; clear hb hbox hg; have hnb30 := NB147_138.out; have hnc30 := NB138_147.out; have hcz31_0 : w29.cell? ⟨gb147, 0, none⟩ = some (.string (⟨#[]⟩ : ByteArray)) := (blk_cell BK147.out 0).trans rfl; have hcz31_1 : w29.cell? ⟨gb147, 1, none⟩ = some (.int .i64 0) := (blk_cell BK147.out 1).trans rfl; have hcz31_2 : w29.cell? ⟨gb147, 2, none⟩ = some (.int .i64 0) := (blk_cell BK147.out 2).trans rfl; have hcz31_3 : w29.cell? ⟨gb147, 3, none⟩ = some (.int .i64 0) := (blk_cell BK147.out 3).trans rfl; have hfz31_0 := blk_frozen BK147.out 0; have hfz31_1 := blk_frozen BK147.out 1; have hfz31_2 := blk_frozen BK147.out 2; have hfz31_3 := blk_frozen BK147.out 3) | ((with_reducible refine gate_store (t := 27) (p := 6) rfl ?_); refine store_event (t := 27) (p := 6) (v := ?vo_w32) (w1 := ((((w29.setCell ⟨gb147, 0, none⟩ (.string t142)).setCell ⟨gb147, 1, none⟩ (.int .i64 t143)).setCell ⟨gb147, 2, none⟩ (.int .i64 t144)).setCell ⟨gb147, 3, none⟩ (.int .i64 t145))) ?hg ?ho ?hn ?hr ?_; (case ho => rfl); (case hg => rfl); (case hn => rfl); (case hr => first | (go_simp; done) | (go_simp; rfl)); intro w32 hw; have n0_ : Aside0 (Kd.R k27 27 w32 w.heap.size (fun k_ => k_ ≠ gb138 ∧ k_ ≠ gb147) (.slice Ao22 y127.length co22) y127) := ⟨(by rw [hw]; exact (by (with_reducible repeat (first | apply Kd.R_alloc | apply Kd.R_drewN | apply Kd.R_drew)); exact Kd.R_mono (Kd.R_far (p := ⟨gb147, 3, none⟩) (Kd.R_far (p := ⟨gb147, 2, none⟩) (Kd.R_far (p := ⟨gb147, 1, none⟩) (Kd.R_far (p := ⟨gb147, 0, none⟩) (Kd.R_mono HO129.out (fun k_ hk => (⟨hk, hk.2⟩ : _ ∧ k_ ≠ gb147))) (fun _ hk => hk.2) (.string t142)) (fun _ hk => hk.2) (.int .i64 t143)) (fun _ hk => hk.2) (.int .i64 t144)) (fun _ hk => hk.2) (.int .i64 t145)) (fun _ hk => ⟨hk.1.1, hk.1.2⟩)))⟩; have n1_ : Aside0 (Kd.V k27 27 w32 w.heap.size (fun k_ => k_ ≠ gb138 ∧ k_ ≠ gb147) (.slice Ao27 t130.length co27) t130) := ⟨(by rw [hw]; exact (by (with_reducible repeat (first | apply Kd.V_alloc | apply Kd.V_drewN | apply Kd.V_drew)); exact Kd.V_mono (Kd.V_far (p := ⟨gb147, 3, none⟩) (Kd.V_far (p := ⟨gb147, 2, none⟩) (Kd.V_far (p := ⟨gb147, 1, none⟩) (Kd.V_far (p := ⟨gb147, 0, none⟩) (Kd.V_mono HO132.out (fun k_ hk => (⟨hk, hk.2⟩ : _ ∧ k_ ≠ gb147))) (fun _ hk => hk.2) (.string t142)) (fun _ hk => hk.2) (.int .i64 t143)) (fun _ hk => hk.2) (.int .i64 t144)) (fun _ hk => hk.2) (.int .i64 t145)) (fun _ hk => ⟨hk.1.1, hk.1.2⟩)))⟩; have n2_ : Aside0 (Kd.V k27 27 w32 w.heap.size (fun k_ => k_ ≠ gb138 ∧ k_ ≠ gb147) v140 t139) := ⟨(by rw [hw]; exact (by (with_reducible repeat (first | apply Kd.V_alloc | apply Kd.V_drewN | apply Kd.V_drew)); exact Kd.V_mono (Kd.V_far (p := ⟨gb147, 3, none⟩) (Kd.V_far (p := ⟨gb147, 2, none⟩) (Kd.V_far (p := ⟨gb147, 1, none⟩) (Kd.V_far (p := ⟨gb147, 0, none⟩) (Kd.V_mono HO141.out (fun k_ hk => (⟨hk, hk.2⟩ : _ ∧ k_ ≠ gb147))) (fun _ hk => hk.2) (.string t142)) (fun _ hk => hk.2) (.int .i64 t143)) (fun _ hk => hk.2) (.int .i64 t144)) (fun _ hk => hk.2) (.int .i64 t145)) (fun _ hk => ⟨hk.1.1, hk.1.2⟩)))⟩; have n3_ : Aside0 (w32.heap[gb138]? = some (.cells #[.string t133, .int .i64 t134, .int .i64 t135, .int .i64 t136] 27 (0, 0))) := ⟨(by rw [hw]; exact (by (with_reducible repeat (first | refine blk_drewN ?_ _ | refine blk_drew ?_ | refine blk_alloc ?_ _)); refine blk_far ?_ NB138_147.out _; (with_reducible repeat (first | refine blk_drewN ?_ _ | refine blk_drew ?_ | refine blk_alloc ?_ _)); refine blk_far ?_ NB138_147.out _; (with_reducible repeat (first | refine blk_drewN ?_ _ | refine blk_drew ?_ | refine blk_alloc ?_ _)); refine blk_far ?_ NB138_147.out _; (with_reducible repeat (first | refine blk_drewN ?_ _ | refine blk_drew ?_ | refine blk_alloc ?_ _)); refine blk_far ?_ NB138_147.out _; (with_reducible repeat (first | refine blk_drewN ?_ _ | refine blk_drew ?_ | refine blk_alloc ?_ _)); exact BK138.out))⟩; have n4_ : Aside0 (w32.heap[gb147]? = some (.cells #[.string t142, .int .i64 t143, .int .i64 t144, .int .i64 t145] 27 (0, 0))) := ⟨(by rw [hw]; exact (by (with_reducible repeat (first | refine blk_drewN ?_ _ | refine blk_drew ?_ | refine blk_alloc ?_ _)); refine blk_put (cs := #[.string t142, .int .i64 t143, .int .i64 t144, .int .i64 0]) ?_ 3 _ rfl; (with_reducible repeat (first | refine blk_drewN ?_ _ | refine blk_drew ?_ | refine blk_alloc ?_ _)); refine blk_put (cs := #[.string t142, .int .i64 t143, .int .i64 0, .int .i64 0]) ?_ 2 _ rfl; (with_reducible repeat (first | refine blk_drewN ?_ _ | refine blk_drew ?_ | refine blk_alloc ?_ _)); refine blk_put (cs := #[.string t142, .int .i64 0, .int .i64 0, .int .i64 0]) ?_ 1 _ rfl; (with_reducible repeat (first | refine blk_drewN ?_ _ | refine blk_drew ?_ | refine blk_alloc ?_ _)); refine blk_put (cs := #[.string (⟨#[]⟩ : ByteArray), .int .i64 0, .int .i64 0, .int .i64 0]) ?_ 0 _ rfl; (with_reducible repeat (first | refine blk_drewN ?_ _ | refine blk_drew ?_ | refine blk_alloc ?_ _)); exact BK147.out))⟩; have n5_ : Aside0 (Below w.heap.size w w32) := ⟨(by rw [hw]; exact (by repeat (first | (with_reducible first | exact HB.out | apply below_alloc | apply pw_below_drewN | apply below_drew1 | refine below_set ?_ GE138.out | refine below_set ?_ GE147.out) | exact HB.out)))⟩; clear hw; clear HO129; clear HO132; clear HO141; clear BK138; clear BK147; clear HB; have HO129 := n0_; have HO132 := n1_; have HO141 := n2_; have BK138 := n3_; have BK147 := n4_; have HB := n5_; clear n0_ n1_ n2_ n3_ n4_ n5_) | ((with_reducible refine gate_callee (f := 13) rfl ?_); refine goesL_ (some 30) rfl rfl Try.func13 (by kernel_rfl) rfl #[.slice Ao27 t130.length co27, .string (⟨#[47, 97]⟩ : ByteArray), .int .i64 1, .int .i64 1] rfl (by (try simp only [List.map_toArray, List.map_cons, List.map_nil]); first | done | rfl | (simp only [List.length_drop, List.length_take]; rfl)) ?_; (with_reducible refine (mounts_Flip.calls (fun k_ => (k_ ≠ gb138 ∧ k_ ≠ gb147)) _ _ t130 (⟨#[47, 97]⟩ : ByteArray) 1 1 t148 t151 _ ?side1 A3.out).mono ?_); (case side1 => exact HO132.out); rintro e w33 ⟨v149, rfl, ho0, hb⟩; refine ⟨_, rfl, ?_⟩; have n0_ := Aside0.mk (Kd.R_below (by (with_reducible repeat (first | apply Kd.R_alloc | apply Kd.R_drewN | apply Kd.R_drew)); exact HO129.out) hb); have n1_ := Aside0.mk (Kd.V_below (by (with_reducible repeat (first | apply Kd.V_alloc | apply Kd.V_drewN | apply Kd.V_drew)); exact HO132.out) hb); have n2_ := Aside0.mk (Kd.V_below (by (with_reducible repeat (first | apply Kd.V_alloc | apply Kd.V_drewN | apply Kd.V_drew)); exact HO141.out) hb); have n3_ := Aside0.mk (Kd.V_lower (Kd.V_mono (ok' := fun k_ => k_ ≠ gb138 ∧ k_ ≠ gb147) ho0 (fun k_ hk_ => ⟨Or.elim hk_ (fun hs_ => hs_.1) (fun hn_ => (Kd.freshB (g := gb138) (o := .cells #[.string t133, .int .i64 t134, .int .i64 t135, .int .i64 t136] 27 (0, 0)) (by (with_reducible repeat (first | refine blk_drewN ?_ _ | refine blk_drew ?_ | refine blk_alloc ?_ _)); exact BK138.out) k_ hn_)), Or.elim hk_ (fun hs_ => hs_.2) (fun hn_ => (Kd.freshB (g := gb147) (o := .cells #[.string t142, .int .i64 t143, .int .i64 t144, .int .i64 t145] 27 (0, 0)) (by (with_reducible repeat (first | refine blk_drewN ?_ _ | refine blk_drew ?_ | refine blk_alloc ?_ _)); exact BK147.out) k_ hn_))⟩)) (below_size (by repeat (first | (with_reducible first | exact HB.out | apply below_alloc | apply pw_below_drewN | apply below_drew1 | refine below_set ?_ GE138.out | refine below_set ?_ GE147.out) | exact HB.out)))); have n4_ := Aside0.mk (blk_below (g := gb138) (o := .cells #[.string t133, .int .i64 t134, .int .i64 t135, .int .i64 t136] 27 (0, 0)) (by (with_reducible repeat (first | refine blk_drewN ?_ _ | refine blk_drew ?_ | refine blk_alloc ?_ _)); exact BK138.out) hb); have n5_ := Aside0.mk (blk_below (g := gb147) (o := .cells #[.string t142, .int .i64 t143, .int .i64 t144, .int .i64 t145] 27 (0, 0)) (by (with_reducible repeat (first | refine blk_drewN ?_ _ | refine blk_drew ?_ | refine blk_alloc ?_ _)); exact BK147.out) hb); have n6_ := Aside0.mk (below_step (by repeat (first | (with_reducible first | exact HB.out | apply below_alloc | apply pw_below_drewN | apply below_drew1 | refine below_set ?_ GE138.out | refine below_set ?_ GE147.out) | exact HB.out)) hb); clear HO129; clear HO132; clear HO141; clear BK138; clear BK147; clear HB; have HO129 := n0_; have HO132 := n1_; have HO141 := n2_; have HO150 := n3_; have BK138 := n4_; have BK147 := n5_; have HB := n6_; clear n0_ n1_ n2_ n3_ n4_ n5_ n6_; (try clear hb); (try clear hb2); (try clear hk); (try clear hi); (try clear ho0); obtain ⟨Ao34, co34, eo34⟩ := Kd.V_slice HO150.out; subst eo34) | ((with_reducible refine gate_callee (f := 13) rfl ?_); refine goesL_ (some 35) rfl rfl Try.func13 (by kernel_rfl) rfl #[.slice Ao34 t148.length co34, .string (⟨#[47, 97]⟩ : ByteArray), .int .i64 1, .int .i64 1] rfl (by (try simp only [List.map_toArray, List.map_cons, List.map_nil]); first | done | rfl | (simp only [List.length_drop, List.length_take]; rfl)) ?_; (with_reducible refine (mounts_Flip.calls (fun k_ => (k_ ≠ gb138 ∧ k_ ≠ gb147)) _ _ t148 (⟨#[47, 97]⟩ : ByteArray) 1 1 t152 t155 _ ?side1 A4.out).mono ?_); (case side1 => exact HO150.out); rintro e w35 ⟨v153, rfl, ho0, hb⟩; refine ⟨_, rfl, ?_⟩; have n0_ := Aside0.mk (Kd.R_below (by (with_reducible repeat (first | apply Kd.R_alloc | apply Kd.R_drewN | apply Kd.R_drew)); exact HO129.out) hb); have n1_ := Aside0.mk (Kd.V_below (by (with_reducible repeat (first | apply Kd.V_alloc | apply Kd.V_drewN | apply Kd.V_drew)); exact HO132.out) hb); have n2_ := Aside0.mk (Kd.V_below (by (with_reducible repeat (first | apply Kd.V_alloc | apply Kd.V_drewN | apply Kd.V_drew)); exact HO141.out) hb); have n3_ := Aside0.mk (Kd.V_below (by (with_reducible repeat (first | apply Kd.V_alloc | apply Kd.V_drewN | apply Kd.V_drew)); exact HO150.out) hb); have n4_ := Aside0.mk (Kd.V_lower (Kd.V_mono (ok' := fun k_ => k_ ≠ gb138 ∧ k_ ≠ gb147) ho0 (fun k_ hk_ => ⟨Or.elim hk_ (fun hs_ => hs_.1) (fun hn_ => (Kd.freshB (g := gb138) (o := .cells #[.string t133, .int .i64 t134, .int .i64 t135, .int .i64 t136] 27 (0, 0)) (by (with_reducible repeat (first | refine blk_drewN ?_ _ | refine blk_drew ?_ | refine blk_alloc ?_ _)); exact BK138.out) k_ hn_)), Or.elim hk_ (fun hs_ => hs_.2) (fun hn_ => (Kd.freshB (g := gb147) (o := .cells #[.string t142, .int .i64 t143, .int .i64 t144, .int .i64 t145] 27 (0, 0)) (by (with_reducible repeat (first | refine blk_drewN ?_ _ | refine blk_drew ?_ | refine blk_alloc ?_ _)); exact BK147.out) k_ hn_))⟩)) (below_size (by repeat (first | (with_reducible first | exact HB.out | apply below_alloc | apply pw_below_drewN | apply below_drew1 | refine below_set ?_ GE138.out | refine below_set ?_ GE147.out) | exact HB.out)))); have n5_ := Aside0.mk (blk_below (g := gb138) (o := .cells #[.string t133, .int .i64 t134, .int .i64 t135, .int .i64 t136] 27 (0, 0)) (by (with_reducible repeat (first | refine blk_drewN ?_ _ | refine blk_drew ?_ | refine blk_alloc ?_ _)); exact BK138.out) hb); have n6_ := Aside0.mk (blk_below (g := gb147) (o := .cells #[.string t142, .int .i64 t143, .int .i64 t144, .int .i64 t145] 27 (0, 0)) (by (with_reducible repeat (first | refine blk_drewN ?_ _ | refine blk_drew ?_ | refine blk_alloc ?_ _)); exact BK147.out) hb); have n7_ := Aside0.mk (below_step (by repeat (first | (with_reducible first | exact HB.out | apply below_alloc | apply pw_below_drewN | apply below_drew1 | refine below_set ?_ GE138.out | refine below_set ?_ GE147.out) | exact HB.out)) hb); clear HO129; clear HO132; clear HO141; clear HO150; clear BK138; clear BK147; clear HB; have HO129 := n0_; have HO132 := n1_; have HO141 := n2_; have HO150 := n3_; have HO154 := n4_; have BK138 := n5_; have BK147 := n6_; have HB := n7_; clear n0_ n1_ n2_ n3_ n4_ n5_ n6_ n7_; (try clear hb); (try clear hb2); (try clear hk); (try clear hi); (try clear ho0)) | ((with_reducible refine gate_callee (f := 13) rfl ?_); refine goesL_ (some 40) rfl rfl Try.func13 (by kernel_rfl) rfl #[.slice Ao34 t148.length co34, .string (⟨#[47, 98]⟩ : ByteArray), .int .i64 1, .int .i64 1] rfl (by (try simp only [List.map_toArray, List.map_cons, List.map_nil]); first | done | rfl | (simp only [List.length_drop, List.length_take]; rfl)) ?_; (with_reducible refine (mounts_Flip.calls (fun k_ => (k_ ≠ gb138 ∧ k_ ≠ gb147)) _ _ t148 (⟨#[47, 98]⟩ : ByteArray) 1 1 t156 t159 _ ?side1 A5.out).mono ?_); (case side1 => exact HO150.out); rintro e w36 ⟨v157, rfl, ho0, hb⟩; refine ⟨_, rfl, ?_⟩; have n0_ := Aside0.mk (Kd.R_below (by (with_reducible repeat (first | apply Kd.R_alloc | apply Kd.R_drewN | apply Kd.R_drew)); exact HO129.out) hb); have n1_ := Aside0.mk (Kd.V_below (by (with_reducible repeat (first | apply Kd.V_alloc | apply Kd.V_drewN | apply Kd.V_drew)); exact HO132.out) hb); have n2_ := Aside0.mk (Kd.V_below (by (with_reducible repeat (first | apply Kd.V_alloc | apply Kd.V_drewN | apply Kd.V_drew)); exact HO141.out) hb); have n3_ := Aside0.mk (Kd.V_below (by (with_reducible repeat (first | apply Kd.V_alloc | apply Kd.V_drewN | apply Kd.V_drew)); exact HO150.out) hb); have n4_ := Aside0.mk (Kd.V_below (by (with_reducible repeat (first | apply Kd.V_alloc | apply Kd.V_drewN | apply Kd.V_drew)); exact HO154.out) hb); have n5_ := Aside0.mk (Kd.V_lower (Kd.V_mono (ok' := fun k_ => k_ ≠ gb138 ∧ k_ ≠ gb147) ho0 (fun k_ hk_ => ⟨Or.elim hk_ (fun hs_ => hs_.1) (fun hn_ => (Kd.freshB (g := gb138) (o := .cells #[.string t133, .int .i64 t134, .int .i64 t135, .int .i64 t136] 27 (0, 0)) (by (with_reducible repeat (first | refine blk_drewN ?_ _ | refine blk_drew ?_ | refine blk_alloc ?_ _)); exact BK138.out) k_ hn_)), Or.elim hk_ (fun hs_ => hs_.2) (fun hn_ => (Kd.freshB (g := gb147) (o := .cells #[.string t142, .int .i64 t143, .int .i64 t144, .int .i64 t145] 27 (0, 0)) (by (with_reducible repeat (first | refine blk_drewN ?_ _ | refine blk_drew ?_ | refine blk_alloc ?_ _)); exact BK147.out) k_ hn_))⟩)) (below_size (by repeat (first | (with_reducible first | exact HB.out | apply below_alloc | apply pw_below_drewN | apply below_drew1 | refine below_set ?_ GE138.out | refine below_set ?_ GE147.out) | exact HB.out)))); have n6_ := Aside0.mk (blk_below (g := gb138) (o := .cells #[.string t133, .int .i64 t134, .int .i64 t135, .int .i64 t136] 27 (0, 0)) (by (with_reducible repeat (first | refine blk_drewN ?_ _ | refine blk_drew ?_ | refine blk_alloc ?_ _)); exact BK138.out) hb); have n7_ := Aside0.mk (blk_below (g := gb147) (o := .cells #[.string t142, .int .i64 t143, .int .i64 t144, .int .i64 t145] 27 (0, 0)) (by (with_reducible repeat (first | refine blk_drewN ?_ _ | refine blk_drew ?_ | refine blk_alloc ?_ _)); exact BK147.out) hb); have n8_ := Aside0.mk (below_step (by repeat (first | (with_reducible first | exact HB.out | apply below_alloc | apply pw_below_drewN | apply below_drew1 | refine below_set ?_ GE138.out | refine below_set ?_ GE147.out) | exact HB.out)) hb); clear HO129; clear HO132; clear HO141; clear HO150; clear HO154; clear BK138; clear BK147; clear HB; have HO129 := n0_; have HO132 := n1_; have HO141 := n2_; have HO150 := n3_; have HO154 := n4_; have HO158 := n5_; have BK138 := n6_; have BK147 := n7_; have HB := n8_; clear n0_ n1_ n2_ n3_ n4_ n5_ n6_ n7_ n8_; (try clear hb); (try clear hb2); (try clear hk); (try clear hi); (try clear ho0); have hcz37_0 : w36.cell? ⟨gb138, 0, none⟩ = some (.string t133) := (blk_cell BK138.out 0).trans rfl; have hcz37_1 : w36.cell? ⟨gb138, 1, none⟩ = some (.int .i64 t134) := (blk_cell BK138.out 1).trans rfl; have hcz37_2 : w36.cell? ⟨gb138, 2, none⟩ = some (.int .i64 t135) := (blk_cell BK138.out 2).trans rfl; have hcz37_3 : w36.cell? ⟨gb138, 3, none⟩ = some (.int .i64 t136) := (blk_cell BK138.out 3).trans rfl; have hfz37_0 := blk_frozen BK138.out 0; have hfz37_1 := blk_frozen BK138.out 1; have hfz37_2 := blk_frozen BK138.out 2; have hfz37_3 := blk_frozen BK138.out 3; have p160 : 0 ≤ (1 : Int) := (by omega); have q160 : 1 < (t148.length : Int) := of_decide_eq_true (by first | (with_reducible assumption) | assumption); obtain ⟨ad160, e160, hx160_0, hx160_1, hx160_2, hx160_3⟩ := at_T27 (Kd.V_reads' HO150.out).2.2 1 p160 q160; cases e160; (try simp only [show (1 : Int).toNat = 1 from rfl, Nat.reduceMul, Nat.reduceEqDiff, Go.Addr.add, ↓reduceIte] at hx160_0); (try simp only [show (1 : Int).toNat = 1 from rfl, Nat.reduceMul, Nat.reduceEqDiff, Go.Addr.add, ↓reduceIte] at hx160_1); (try simp only [show (1 : Int).toNat = 1 from rfl, Nat.reduceMul, Nat.reduceEqDiff, Go.Addr.add, ↓reduceIte] at hx160_2); (try simp only [show (1 : Int).toNat = 1 from rfl, Nat.reduceMul, Nat.reduceEqDiff, Go.Addr.add, ↓reduceIte] at hx160_3); have qi160 : (1 < t148.length) = True := eq_true (by omega); (try rw [show ((1 : Int)).toNat = 1 from rfl] at hx160_0); (try rw [show 1 * 4 = 4 from rfl] at hx160_0); (try rw [show ((1 : Int)).toNat = 1 from rfl] at hx160_1); (try rw [show 1 * 4 = 4 from rfl] at hx160_1); (try rw [show ((1 : Int)).toNat = 1 from rfl] at hx160_2); (try rw [show 1 * 4 = 4 from rfl] at hx160_2); (try rw [show ((1 : Int)).toNat = 1 from rfl] at hx160_3); (try rw [show 1 * 4 = 4 from rfl] at hx160_3); replace p160 := eq_true p160; replace q160 := eq_true q160; have p161 : 0 ≤ (1 : Int) := (by omega); have q161 : 1 < (t148.length : Int) := of_decide_eq_true (by first | (with_reducible assumption) | assumption); obtain ⟨ad161, e161, hx161_0, hx161_1, hx161_2, hx161_3⟩ := at_T27 (Kd.V_reads' HO150.out).2.2 1 p161 q161; obtain rfl : ad160 = ad161 := (by injection e161); (try simp only [show (1 : Int).toNat = 1 from rfl, Nat.reduceMul, Nat.reduceEqDiff, Go.Addr.add, ↓reduceIte] at hx161_0); (try simp only [show (1 : Int).toNat = 1 from rfl, Nat.reduceMul, Nat.reduceEqDiff, Go.Addr.add, ↓reduceIte] at hx161_1); (try simp only [show (1 : Int).toNat = 1 from rfl, Nat.reduceMul, Nat.reduceEqDiff, Go.Addr.add, ↓reduceIte] at hx161_2); (try simp only [show (1 : Int).toNat = 1 from rfl, Nat.reduceMul, Nat.reduceEqDiff, Go.Addr.add, ↓reduceIte] at hx161_3); have qi161 : (1 < t148.length) = True := eq_true (by omega); (try rw [show ((1 : Int)).toNat = 1 from rfl] at hx161_0); (try rw [show 1 * 4 = 4 from rfl] at hx161_0); (try rw [show ((1 : Int)).toNat = 1 from rfl] at hx161_1); (try rw [show 1 * 4 = 4 from rfl] at hx161_1); (try rw [show ((1 : Int)).toNat = 1 from rfl] at hx161_2); (try rw [show 1 * 4 = 4 from rfl] at hx161_2); (try rw [show ((1 : Int)).toNat = 1 from rfl] at hx161_3); (try rw [show 1 * 4 = 4 from rfl] at hx161_3); replace p161 := eq_true p161; replace q161 := eq_true q161) | (go_at_call 15; (with_reducible refine (mounts_Of.calls k _ _ t148 (⟨#[47, 97, 47, 98]⟩ : ByteArray) t162 _ ?side1 ?side2 A17.out).mono ?_); (case side1 => repeat (first | exact (Kd.V_reads' HO150.out).2.2 | (with_reducible refine Kd.C_alloc ?_ _) | (with_reducible refine Kd.C_drewN ?_ _) | (with_reducible refine Kd.C_drew ?_))); (case side2 => exact (Kd.V_reads' HO150.out).2.1); rintro e w38 ⟨rfl, hb⟩; have n0_ := Aside0.mk (Kd.R_below (by (with_reducible repeat (first | apply Kd.R_alloc | apply Kd.R_drewN | apply Kd.R_drew)); exact HO129.out) hb); have n1_ := Aside0.mk (Kd.V_below (by (with_reducible repeat (first | apply Kd.V_alloc | apply Kd.V_drewN | apply Kd.V_drew)); exact HO132.out) hb); have n2_ := Aside0.mk (Kd.V_below (by (with_reducible repeat (first | apply Kd.V_alloc | apply Kd.V_drewN | apply Kd.V_drew)); exact HO141.out) hb); have n3_ := Aside0.mk (Kd.V_below (by (with_reducible repeat (first | apply Kd.V_alloc | apply Kd.V_drewN | apply Kd.V_drew)); exact HO150.out) hb); have n4_ := Aside0.mk (Kd.V_below (by (with_reducible repeat (first | apply Kd.V_alloc | apply Kd.V_drewN | apply Kd.V_drew)); exact HO154.out) hb); have n5_ := Aside0.mk (Kd.V_below (by (with_reducible repeat (first | apply Kd.V_alloc | apply Kd.V_drewN | apply Kd.V_drew)); exact HO158.out) hb); have n6_ := Aside0.mk (blk_below (g := gb138) (o := .cells #[.string t133, .int .i64 t134, .int .i64 t135, .int .i64 t136] 27 (0, 0)) (by (with_reducible repeat (first | refine blk_drewN ?_ _ | refine blk_drew ?_ | refine blk_alloc ?_ _)); exact BK138.out) hb); have n7_ := Aside0.mk (blk_below (g := gb147) (o := .cells #[.string t142, .int .i64 t143, .int .i64 t144, .int .i64 t145] 27 (0, 0)) (by (with_reducible repeat (first | refine blk_drewN ?_ _ | refine blk_drew ?_ | refine blk_alloc ?_ _)); exact BK147.out) hb); have n8_ := Aside0.mk (below_step (by repeat (first | (with_reducible first | exact HB.out | apply below_alloc | apply pw_below_drewN | apply below_drew1 | refine below_set ?_ GE138.out | refine below_set ?_ GE147.out) | exact HB.out)) hb); clear HO129; clear HO132; clear HO141; clear HO150; clear HO154; clear HO158; clear BK138; clear BK147; clear HB; have HO129 := n0_; have HO132 := n1_; have HO141 := n2_; have HO150 := n3_; have HO154 := n4_; have HO158 := n5_; have BK138 := n6_; have BK147 := n7_; have HB := n8_; clear n0_ n1_ n2_ n3_ n4_ n5_ n6_ n7_ n8_; (try clear hb); (try clear hb2); (try clear hk); (try clear hi)) | (go_at_call 20; (with_reducible refine (mounts_Right.calls k _ _ t148 t163 _ ?side1 ?side2 A19.out).mono ?_); (case side1 => repeat (first | exact (Kd.V_reads' HO150.out).2.2 | (with_reducible refine Kd.C_alloc ?_ _) | (with_reducible refine Kd.C_drewN ?_ _) | (with_reducible refine Kd.C_drew ?_))); (case side2 => exact (Kd.V_reads' HO150.out).2.1); rintro e w39 ⟨rfl, hb⟩; have n0_ := Aside0.mk (Kd.R_below (by (with_reducible repeat (first | apply Kd.R_alloc | apply Kd.R_drewN | apply Kd.R_drew)); exact HO129.out) hb); have n1_ := Aside0.mk (Kd.V_below (by (with_reducible repeat (first | apply Kd.V_alloc | apply Kd.V_drewN | apply Kd.V_drew)); exact HO132.out) hb); have n2_ := Aside0.mk (Kd.V_below (by (with_reducible repeat (first | apply Kd.V_alloc | apply Kd.V_drewN | apply Kd.V_drew)); exact HO141.out) hb); have n3_ := Aside0.mk (Kd.V_below (by (with_reducible repeat (first | apply Kd.V_alloc | apply Kd.V_drewN | apply Kd.V_drew)); exact HO150.out) hb); have n4_ := Aside0.mk (Kd.V_below (by (with_reducible repeat (first | apply Kd.V_alloc | apply Kd.V_drewN | apply Kd.V_drew)); exact HO154.out) hb); have n5_ := Aside0.mk (Kd.V_below (by (with_reducible repeat (first | apply Kd.V_alloc | apply Kd.V_drewN | apply Kd.V_drew)); exact HO158.out) hb); have n6_ := Aside0.mk (blk_below (g := gb138) (o := .cells #[.string t133, .int .i64 t134, .int .i64 t135, .int .i64 t136] 27 (0, 0)) (by (with_reducible repeat (first | refine blk_drewN ?_ _ | refine blk_drew ?_ | refine blk_alloc ?_ _)); exact BK138.out) hb); have n7_ := Aside0.mk (blk_below (g := gb147) (o := .cells #[.string t142, .int .i64 t143, .int .i64 t144, .int .i64 t145] 27 (0, 0)) (by (with_reducible repeat (first | refine blk_drewN ?_ _ | refine blk_drew ?_ | refine blk_alloc ?_ _)); exact BK147.out) hb); have n8_ := Aside0.mk (below_step (by repeat (first | (with_reducible first | exact HB.out | apply below_alloc | apply pw_below_drewN | apply below_drew1 | refine below_set ?_ GE138.out | refine below_set ?_ GE147.out) | exact HB.out)) hb); clear HO129; clear HO132; clear HO141; clear HO150; clear HO154; clear HO158; clear BK138; clear BK147; clear HB; have HO129 := n0_; have HO132 := n1_; have HO141 := n2_; have HO150 := n3_; have HO154 := n4_; have HO158 := n5_; have BK138 := n6_; have BK147 := n7_; have HB := n8_; clear n0_ n1_ n2_ n3_ n4_ n5_ n6_ n7_ n8_; (try clear hb); (try clear hb2); (try clear hk); (try clear hi)))
             go_ret
             exact ⟨by first | rfl | (simp [errW_none, errW_some] <;> rfl) | (simp [*, errW_none, errW_some] <;> rfl), by repeat (first | (with_reducible first | exact HB.out | apply below_alloc | apply pw_below_drewN | apply below_drew1 | refine below_set ?_ GE138.out | refine below_set ?_ GE147.out) | exact HB.out)⟩
            ·rw [if_neg c18] at H
             have c18b0 : (t162 == 1) = false := beq_eq_false_iff_ne.mpr c18
             have c18b1 : (t162 != 1) = true := bne_iff_ne.mpr c18
             exact absurd ((Option.some.inj H).trans hr) (by decide)
           ·rw [if_neg c16] at H
            have c16b0 : (t159 == 133) = false := beq_eq_false_iff_ne.mpr c16
            have c16b1 : (t159 != 133) = true := bne_iff_ne.mpr c16
            exact absurd ((Option.some.inj H).trans hr) (by decide)
          ·rw [if_neg c15] at H
           have c15b0 : (t155 == 0) = false := beq_eq_false_iff_ne.mpr c15
           have c15b1 : (t155 != 0) = true := bne_iff_ne.mpr c15
           exact absurd ((Option.some.inj H).trans hr) (by decide)
         ·rw [if_neg c14] at H
          have c14b0 : (((rd_T27 t148 1).f2) == 2) = false := beq_eq_false_iff_ne.mpr c14
          have c14b1 : (((rd_T27 t148 1).f2) != 2) = true := bne_iff_ne.mpr c14
          exact absurd ((Option.some.inj H).trans hr) (by decide)
        ·rw [if_neg c13] at H
         have c13b0 : (((rd_T27 t148 1).f1) == 1) = false := beq_eq_false_iff_ne.mpr c13
         have c13b1 : (((rd_T27 t148 1).f1) != 1) = true := bne_iff_ne.mpr c13
         exact absurd ((Option.some.inj H).trans hr) (by decide)
       ·rw [if_neg c12] at H
        exact absurd H (by simp)
      ·rw [if_neg c11] at H
       have c11b0 : (t151 == 0) = false := beq_eq_false_iff_ne.mpr c11
       have c11b1 : (t151 != 0) = true := bne_iff_ne.mpr c11
       exact absurd ((Option.some.inj H).trans hr) (by decide)
     ·rw [if_neg c10] at H
      have c10b0 : (t146 == 131) = false := beq_eq_false_iff_ne.mpr c10
      have c10b1 : (t146 != 131) = true := bne_iff_ne.mpr c10
      exact absurd ((Option.some.inj H).trans hr) (by decide)
    ·rw [if_neg c9] at H
     have c9b0 : ((t130.length : Int) == 2) = false := beq_eq_false_iff_ne.mpr c9
     have c9b1 : ((t130.length : Int) != 2) = true := bne_iff_ne.mpr c9
     exact absurd ((Option.some.inj H).trans hr) (by decide)
   ·rw [if_neg c8] at H
    have c8b0 : (t136 == 1) = false := beq_eq_false_iff_ne.mpr c8
    have c8b1 : (t136 != 1) = true := bne_iff_ne.mpr c8
    exact absurd ((Option.some.inj H).trans hr) (by decide)
  ·rw [if_neg c7] at H
   have c7b0 : (t134 == 0) = false := beq_eq_false_iff_ne.mpr c7
   have c7b1 : (t134 != 0) = true := bne_iff_ne.mpr c7
   exact absurd ((Option.some.inj H).trans hr) (by decide)
 ·rw [if_neg c6] at H
  have c6b0 : (t137 == 0) = false := beq_eq_false_iff_ne.mpr c6
  have c6b1 : (t137 != 0) = true := bne_iff_ne.mpr c6
  exact absurd ((Option.some.inj H).trans hr) (by decide)
theorem cantonlaw14_head.mono_le (k : Nat) : ∀ n r, cantonlaw14_head.f k = some r → cantonlaw14_head.f (k + n) = some r
  | 0, _, h => h
  | n + 1, r, h => cantonlaw14_head.mono (k + n) r (cantonlaw14_head.mono_le k n r h)
theorem cantonlaw14_head.at50 : cantonlaw14_head.f 50 = some true := by kernel_rfl
theorem cantonlaw14_head.only (k : Nat) (r : Bool) (h : cantonlaw14_head.f k = some r) : r = true := by
  have h1 := cantonlaw14_head.mono_le k 50 r h
  have h2 := cantonlaw14_head.mono_le 50 k true cantonlaw14_head.at50
  rw [Nat.add_comm] at h2
  exact Option.some.inj (h1.symm.trans h2)
theorem cantonlaw14_head.calls (k : Nat)  (r : Bool) (w : World) (h : cantonlaw14_head.f k  = some r) :
  Calls Try.prog 8 #[] w fun e w' => e = .returned (.bool r) ∧ Below w.heap.size w w' := by
  have hr := cantonlaw14_head.only k r h
  exact cantonlaw14_head.calls_true k r w hr h

/-! ### cantonlaw14_great: function 9 -/
def cantonlaw14_great.l0 : Nat → List (S27) → Int → Int → Option (Bool)
 | 0, _, _, _ => none
 | k + 1, x0, x3, x4 => if x4 < (x0.length : Int) then (if x3 < 3000 then (if 0 ≤ x4 then (cantonlaw14_great.l0 k x0 (wrap64 (x3 + (mn (((rd_T27 x0 x4).f0).size : Int) 3000))) (wrap64 (x4 + 1))) else (none)) else (some (decide (x3 ≥ 3000)))) else (some (decide (x3 ≥ 3000)))
def cantonlaw14_great.f (k : Nat) (l0 : List (S27)) : Option (Bool) := cantonlaw14_great.l0 k l0 (l0.length : Int) 0
theorem cantonlaw14_great.mono_l : ∀ k, (∀ y0 y1 y2, LeO (cantonlaw14_great.l0 k y0 y1 y2) (cantonlaw14_great.l0 (k + 1) y0 y1 y2))
 | 0 => fun _ _ _ r h => by simp [cantonlaw14_great.l0] at h
 | k + 1 => by
  have ih0 := cantonlaw14_great.mono_l k
  ·intro y0 y1 y2
   unfold cantonlaw14_great.l0
   repeat' first
   | (with_reducible exact ih0 _ _ _)
   | (with_reducible exact LeO.refl _)
   | (with_reducible exact LeO.none _)
   | (with_reducible refine LeO.ite ?_ ?_)
   | (with_reducible refine LeO.bind ?_ (fun _ => ?_))
   | exact ih0 _ _ _
   | exact LeO.none _
   | refine LeO.ite ?_ ?_
   | refine LeO.bind ?_ (fun _ => ?_)
theorem cantonlaw14_great.mono : ∀ a0 k, LeO (cantonlaw14_great.f k a0) (cantonlaw14_great.f (k + 1) a0) := by
 intro a0 k
 have ih0 := cantonlaw14_great.mono_l k
 unfold cantonlaw14_great.f
 repeat' first
   | (with_reducible exact ih0 _ _ _)
   | (with_reducible exact LeO.refl _)
   | (with_reducible exact LeO.none _)
   | (with_reducible refine LeO.ite ?_ ?_)
   | (with_reducible refine LeO.bind ?_ (fun _ => ?_))
   | exact ih0 _ _ _
   | exact LeO.none _
   | refine LeO.ite ?_ ?_
   | refine LeO.bind ?_ (fun _ => ?_)
set_option maxHeartbeats 8000000 in
set_option maxRecDepth 100000 in
theorem cantonlaw14_great.calls (k : Nat) (A0 : Option Addr) (c0 : Nat) (l0 : List (S27)) (r : Bool) (w : World) (hr0 : Kd.C k27 w A0 l0.length l0) (hc0 : l0.length ≤ c0) (h : cantonlaw14_great.f k l0 = some r) :
  Calls Try.prog 9 #[.slice A0 l0.length c0] w fun e w' => e = .returned (.bool r) ∧ Below w.heap.size w w' := by
 have HR0 := Aside0.mk hr0
 have HC0 := Aside0.mk hc0
 clear hr0 hc0
 have HB := Aside0.mk (Below.refl w.heap.size w)
 have H : (cantonlaw14_great.l0 k l0 (l0.length : Int) 0) = some r := h
 clear h
 have H' := Aside0.mk H
 clear H
 go_enter Try.func9, Try.ntmps9
 go_wp2
 go_loopg [3, 4] k (fun kq v3 v4 w' => ∃ (x3_1 : Int) (x4_1 : Int), v3 = .int .i64 x3_1 ∧ v4 = .int .i64 x4_1 ∧ Aside0 (cantonlaw14_great.l0 kq l0 x3_1 x4_1 = some r) ∧ Aside0 (kq ≤ k) ∧ Aside0 (Below w.heap.size w w'))
 case atStart => exact ⟨((l0.length : Int)), (0), (by first | rfl | (simp; done) | (simp [*]; done)), (by first | rfl | (simp; done) | (simp [*]; done)), H', ⟨Nat.le_refl _⟩, ⟨by repeat (first | (with_reducible first | exact HB.out | apply below_alloc | apply pw_below_drewN | apply below_drew1) | exact HB.out)⟩⟩
 case round =>
  clear H'
  obtain ⟨x3_1, x4_1, rfl, rfl, HA, HK1, HB⟩ := hrel
  cases gk with
  | zero => exact absurd HA.out (by simp [cantonlaw14_great.l0])
  | succ k1 =>
   have H := HA.out
   clear HA
   simp only [cantonlaw14_great.l0] at H
   by_cases c2 : x4_1 < (l0.length : Int)
   ·rw [if_pos c2] at H
    have c2b0 : decide (x4_1 < (l0.length : Int)) = true := decide_eq_true c2
    clear c2
    by_cases c3 : x3_1 < 3000
    ·rw [if_pos c3] at H
     have c3b0 : decide (x3_1 < 3000) = true := decide_eq_true c3
     clear c3
     by_cases c4 : 0 ≤ x4_1
     ·rw [if_pos c4] at H
      have c4b0 : decide (0 ≤ x4_1) = true := decide_eq_true c4
      clear c4
      obtain ⟨ji5, hji5⟩ : ∃ j_ : Int, (mn (((rd_T27 l0 x4_1).f0).size : Int) 3000) = j_ := ⟨_, rfl⟩
      replace H : (cantonlaw14_great.l0 k1 l0 (wrap64 (x3_1 + (ji5))) (wrap64 (x4_1 + 1))) = some r := by first | (rw [hji5] at H; exact H) | (simp only [hji5] at H ⊢; exact H)
      have hji5_ : (if 3000 < (((rd_T27 l0 x4_1).f0).size : Int) then 3000 else (((rd_T27 l0 x4_1).f0).size : Int)) = ji5 := hji5
      have H' := Aside0.mk H
      clear H
      have p164 : 0 ≤ (x4_1 : Int) := of_decide_eq_true (by first | (with_reducible assumption) | assumption)
      have q164 : x4_1 < (l0.length : Int) := of_decide_eq_true (by first | (with_reducible assumption) | assumption)
      obtain ⟨ad164, e164, hx164_0, hx164_1, hx164_2, hx164_3⟩ := at_T27 HR0.out x4_1 p164 q164
      cases e164
      replace hx164_0 := (HB.out.cell (World.block_lt_of_cell? w _ hx164_0)).trans hx164_0
      replace hx164_1 := (HB.out.cell (World.block_lt_of_cell? w _ hx164_1)).trans hx164_1
      replace hx164_2 := (HB.out.cell (World.block_lt_of_cell? w _ hx164_2)).trans hx164_2
      replace hx164_3 := (HB.out.cell (World.block_lt_of_cell? w _ hx164_3)).trans hx164_3
      replace p164 := eq_true p164
      replace q164 := eq_true q164
      go_wp2
      go_roundg k1
      case measure => have := HK1.out; omega
      case rel => exact ⟨(wrap64 (x3_1 + (ji5))), (wrap64 (x4_1 + 1)), (by first | rfl | (simp; done) | (simp only [← hji5] <;> (first | rfl | simp)) | (simp [*]; done)), (by first | rfl | (simp; done) | (simp [*]; done)), H', ⟨by have := HK1.out; omega⟩, ⟨by repeat (first | (with_reducible first | exact HB.out | apply below_alloc | apply pw_below_drewN | apply below_drew1) | exact HB.out)⟩⟩
     ·rw [if_neg c4] at H
      exact absurd H (by simp)
    ·rw [if_neg c3] at H
     have c3b0 : decide (x3_1 < 3000) = false := decide_eq_false c3
     clear c3
     obtain rfl := Option.some.inj H
     go_wp2
     go_ret
     exact ⟨by first | rfl | (simp [errW_none, errW_some] <;> rfl) | (simp [*, errW_none, errW_some] <;> rfl), by repeat (first | (with_reducible first | exact HB.out | apply below_alloc | apply pw_below_drewN | apply below_drew1) | exact HB.out)⟩
   ·rw [if_neg c2] at H
    have c2b0 : decide (x4_1 < (l0.length : Int)) = false := decide_eq_false c2
    clear c2
    obtain rfl := Option.some.inj H
    go_wp2
    go_ret
    exact ⟨by first | rfl | (simp [errW_none, errW_some] <;> rfl) | (simp [*, errW_none, errW_some] <;> rfl), by repeat (first | (with_reducible first | exact HB.out | apply below_alloc | apply pw_below_drewN | apply below_drew1) | exact HB.out)⟩

/-! ### cantonref01_Part: function 32 -/
def cantonref01_Part.l0 : Nat → ByteArray → Int → Option (Bool)
 | 0, _, _ => none
 | k + 1, x0, x3 => if x3 < (x0.size : Int) then (if 0 ≤ x3 then (if (bt x0 x3) = 45 then (cantonref01_Part.l0 k x0 (wrap64 (x3 + 1))) else (if (bt x0 x3) < 97 then (if (bt x0 x3) < 48 then (some false) else (if (bt x0 x3) > 57 then (some false) else (cantonref01_Part.l0 k x0 (wrap64 (x3 + 1))))) else (if (bt x0 x3) > 122 then (if (bt x0 x3) < 48 then (some false) else (if (bt x0 x3) > 57 then (some false) else (cantonref01_Part.l0 k x0 (wrap64 (x3 + 1))))) else (cantonref01_Part.l0 k x0 (wrap64 (x3 + 1)))))) else (none)) else (if (x0.size : Int) ≥ 1 then (some (decide ((x0.size : Int) ≤ 12))) else (some false))
def cantonref01_Part.f (k : Nat) (a0 : ByteArray) : Option (Bool) := cantonref01_Part.l0 k a0 0
theorem cantonref01_Part.mono_l : ∀ k, (∀ y0 y1, LeO (cantonref01_Part.l0 k y0 y1) (cantonref01_Part.l0 (k + 1) y0 y1))
 | 0 => fun _ _ r h => by simp [cantonref01_Part.l0] at h
 | k + 1 => by
  have ih0 := cantonref01_Part.mono_l k
  ·intro y0 y1
   unfold cantonref01_Part.l0
   repeat' first
   | (with_reducible exact ih0 _ _)
   | (with_reducible exact LeO.refl _)
   | (with_reducible exact LeO.none _)
   | (with_reducible refine LeO.ite ?_ ?_)
   | (with_reducible refine LeO.bind ?_ (fun _ => ?_))
   | exact ih0 _ _
   | exact LeO.none _
   | refine LeO.ite ?_ ?_
   | refine LeO.bind ?_ (fun _ => ?_)
theorem cantonref01_Part.mono : ∀ a0 k, LeO (cantonref01_Part.f k a0) (cantonref01_Part.f (k + 1) a0) := by
 intro a0 k
 have ih0 := cantonref01_Part.mono_l k
 unfold cantonref01_Part.f
 repeat' first
   | (with_reducible exact ih0 _ _)
   | (with_reducible exact LeO.refl _)
   | (with_reducible exact LeO.none _)
   | (with_reducible refine LeO.ite ?_ ?_)
   | (with_reducible refine LeO.bind ?_ (fun _ => ?_))
   | exact ih0 _ _
   | exact LeO.none _
   | refine LeO.ite ?_ ?_
   | refine LeO.bind ?_ (fun _ => ?_)
set_option maxHeartbeats 8000000 in
set_option maxRecDepth 100000 in
theorem cantonref01_Part.calls (k : Nat) (a0 : ByteArray) (r : Bool) (w : World) (h : cantonref01_Part.f k a0 = some r) :
  Calls Try.prog 32 #[.string a0] w fun e w' => e = .returned (.bool r) ∧ Drawn0 w w' := by
 have H : (cantonref01_Part.l0 k a0 0) = some r := h
 clear h
 have H' := Aside0.mk H
 clear H
 go_enter Try.func32, Try.ntmps32
 go_wp2
 go_loopg [3] k (fun kq v3 w' => ∃ (x3_1 : Int), v3 = .int .i64 x3_1 ∧ Aside0 (cantonref01_Part.l0 kq a0 x3_1 = some r) ∧ Aside0 (kq ≤ k) ∧ Drawn0 w w')
 case atStart => exact ⟨(0), (by first | rfl | (simp; done) | (simp [*]; done)), H', ⟨Nat.le_refl _⟩, by repeat (first | exact Drawn0.refl _ | apply Drawn0.step)⟩
 case round =>
  clear H'
  obtain ⟨x3_1, rfl, HA, HK1, ⟨m1, rfl⟩⟩ := hrel
  cases gk with
  | zero => exact absurd HA.out (by simp [cantonref01_Part.l0])
  | succ k1 =>
   have H := HA.out
   clear HA
   simp only [cantonref01_Part.l0] at H
   by_cases c2 : x3_1 < (a0.size : Int)
   ·rw [if_pos c2] at H
    have c2b0 : decide (x3_1 < (a0.size : Int)) = true := decide_eq_true c2
    clear c2
    by_cases c3 : 0 ≤ x3_1
    ·rw [if_pos c3] at H
     have c3b0 : decide (0 ≤ x3_1) = true := decide_eq_true c3
     clear c3
     by_cases c5 : (bt a0 x3_1) = 45
     ·rw [if_pos c5] at H
      have c5b0 : ((bt a0 x3_1) == 45) = true := beq_iff_eq.mpr c5
      have c5b1 : ((bt a0 x3_1) != 45) = false := bne_eq_false_iff_eq.mpr c5
      clear c5
      have H' := Aside0.mk H
      clear H
      have p4 : 0 ≤ (x3_1 : Int) := of_decide_eq_true (by first | (with_reducible assumption) | assumption)
      have q4 : x3_1 < (a0.size : Int) := of_decide_eq_true (by first | (with_reducible assumption) | assumption)
      have hx4 := bt_at a0 x3_1
      replace p4 := eq_true p4
      replace q4 := eq_true q4
      go_wp2
      go_roundg k1
      case measure => have := HK1.out; omega
      case rel => exact ⟨(wrap64 (x3_1 + 1)), (by first | rfl | (simp; done) | (simp [*]; done)), H', ⟨by have := HK1.out; omega⟩, by repeat (first | exact Drawn0.refl _ | apply Drawn0.step)⟩
     ·rw [if_neg c5] at H
      have c5b0 : ((bt a0 x3_1) == 45) = false := beq_eq_false_iff_ne.mpr c5
      have c5b1 : ((bt a0 x3_1) != 45) = true := bne_iff_ne.mpr c5
      by_cases c6 : (bt a0 x3_1) < 97
      ·rw [if_pos c6] at H
       have c6b0 : decide ((bt a0 x3_1) < 97) = true := decide_eq_true c6
       clear c6
       by_cases c7 : (bt a0 x3_1) < 48
       ·rw [if_pos c7] at H
        have c7b0 : decide ((bt a0 x3_1) < 48) = true := decide_eq_true c7
        clear c7
        obtain rfl := Option.some.inj H
        have p4 : 0 ≤ (x3_1 : Int) := of_decide_eq_true (by first | (with_reducible assumption) | assumption)
        have q4 : x3_1 < (a0.size : Int) := of_decide_eq_true (by first | (with_reducible assumption) | assumption)
        have hx4 := bt_at a0 x3_1
        replace p4 := eq_true p4
        replace q4 := eq_true q4
        go_wp2
        go_ret
        exact ⟨by first | rfl | (simp; done) | (simp [*]; done), by repeat (first | exact Drawn0.refl _ | apply Drawn0.step)⟩
       ·rw [if_neg c7] at H
        have c7b0 : decide ((bt a0 x3_1) < 48) = false := decide_eq_false c7
        clear c7
        by_cases c8 : (bt a0 x3_1) > 57
        ·rw [if_pos c8] at H
         have c8b0 : decide (57 < (bt a0 x3_1)) = true := decide_eq_true c8
         clear c8
         obtain rfl := Option.some.inj H
         have p4 : 0 ≤ (x3_1 : Int) := of_decide_eq_true (by first | (with_reducible assumption) | assumption)
         have q4 : x3_1 < (a0.size : Int) := of_decide_eq_true (by first | (with_reducible assumption) | assumption)
         have hx4 := bt_at a0 x3_1
         replace p4 := eq_true p4
         replace q4 := eq_true q4
         go_wp2
         go_ret
         exact ⟨by first | rfl | (simp; done) | (simp [*]; done), by repeat (first | exact Drawn0.refl _ | apply Drawn0.step)⟩
        ·rw [if_neg c8] at H
         have c8b0 : decide (57 < (bt a0 x3_1)) = false := decide_eq_false c8
         clear c8
         have H' := Aside0.mk H
         clear H
         have p4 : 0 ≤ (x3_1 : Int) := of_decide_eq_true (by first | (with_reducible assumption) | assumption)
         have q4 : x3_1 < (a0.size : Int) := of_decide_eq_true (by first | (with_reducible assumption) | assumption)
         have hx4 := bt_at a0 x3_1
         replace p4 := eq_true p4
         replace q4 := eq_true q4
         go_wp2
         go_roundg k1
         case measure => have := HK1.out; omega
         case rel => exact ⟨(wrap64 (x3_1 + 1)), (by first | rfl | (simp; done) | (simp [*]; done)), H', ⟨by have := HK1.out; omega⟩, by repeat (first | exact Drawn0.refl _ | apply Drawn0.step)⟩
      ·rw [if_neg c6] at H
       have c6b0 : decide ((bt a0 x3_1) < 97) = false := decide_eq_false c6
       clear c6
       by_cases c9 : (bt a0 x3_1) > 122
       ·rw [if_pos c9] at H
        have c9b0 : decide (122 < (bt a0 x3_1)) = true := decide_eq_true c9
        clear c9
        by_cases c10 : (bt a0 x3_1) < 48
        ·rw [if_pos c10] at H
         have c10b0 : decide ((bt a0 x3_1) < 48) = true := decide_eq_true c10
         clear c10
         obtain rfl := Option.some.inj H
         have p4 : 0 ≤ (x3_1 : Int) := of_decide_eq_true (by first | (with_reducible assumption) | assumption)
         have q4 : x3_1 < (a0.size : Int) := of_decide_eq_true (by first | (with_reducible assumption) | assumption)
         have hx4 := bt_at a0 x3_1
         replace p4 := eq_true p4
         replace q4 := eq_true q4
         go_wp2
         go_ret
         exact ⟨by first | rfl | (simp; done) | (simp [*]; done), by repeat (first | exact Drawn0.refl _ | apply Drawn0.step)⟩
        ·rw [if_neg c10] at H
         have c10b0 : decide ((bt a0 x3_1) < 48) = false := decide_eq_false c10
         clear c10
         by_cases c11 : (bt a0 x3_1) > 57
         ·rw [if_pos c11] at H
          have c11b0 : decide (57 < (bt a0 x3_1)) = true := decide_eq_true c11
          clear c11
          obtain rfl := Option.some.inj H
          have p4 : 0 ≤ (x3_1 : Int) := of_decide_eq_true (by first | (with_reducible assumption) | assumption)
          have q4 : x3_1 < (a0.size : Int) := of_decide_eq_true (by first | (with_reducible assumption) | assumption)
          have hx4 := bt_at a0 x3_1
          replace p4 := eq_true p4
          replace q4 := eq_true q4
          go_wp2
          go_ret
          exact ⟨by first | rfl | (simp; done) | (simp [*]; done), by repeat (first | exact Drawn0.refl _ | apply Drawn0.step)⟩
         ·rw [if_neg c11] at H
          have c11b0 : decide (57 < (bt a0 x3_1)) = false := decide_eq_false c11
          clear c11
          have H' := Aside0.mk H
          clear H
          have p4 : 0 ≤ (x3_1 : Int) := of_decide_eq_true (by first | (with_reducible assumption) | assumption)
          have q4 : x3_1 < (a0.size : Int) := of_decide_eq_true (by first | (with_reducible assumption) | assumption)
          have hx4 := bt_at a0 x3_1
          replace p4 := eq_true p4
          replace q4 := eq_true q4
          go_wp2
          go_roundg k1
          case measure => have := HK1.out; omega
          case rel => exact ⟨(wrap64 (x3_1 + 1)), (by first | rfl | (simp; done) | (simp [*]; done)), H', ⟨by have := HK1.out; omega⟩, by repeat (first | exact Drawn0.refl _ | apply Drawn0.step)⟩
       ·rw [if_neg c9] at H
        have c9b0 : decide (122 < (bt a0 x3_1)) = false := decide_eq_false c9
        clear c9
        have H' := Aside0.mk H
        clear H
        have p4 : 0 ≤ (x3_1 : Int) := of_decide_eq_true (by first | (with_reducible assumption) | assumption)
        have q4 : x3_1 < (a0.size : Int) := of_decide_eq_true (by first | (with_reducible assumption) | assumption)
        have hx4 := bt_at a0 x3_1
        replace p4 := eq_true p4
        replace q4 := eq_true q4
        go_wp2
        go_roundg k1
        case measure => have := HK1.out; omega
        case rel => exact ⟨(wrap64 (x3_1 + 1)), (by first | rfl | (simp; done) | (simp [*]; done)), H', ⟨by have := HK1.out; omega⟩, by repeat (first | exact Drawn0.refl _ | apply Drawn0.step)⟩
    ·rw [if_neg c3] at H
     exact absurd H (by simp)
   ·rw [if_neg c2] at H
    have c2b0 : decide (x3_1 < (a0.size : Int)) = false := decide_eq_false c2
    clear c2
    by_cases c12 : (a0.size : Int) ≥ 1
    ·rw [if_pos c12] at H
     have c12b0 : decide (1 ≤ (a0.size : Int)) = true := decide_eq_true c12
     have c12b1 : decide (1 ≤ a0.size) = true := decide_eq_true (by omega)
     clear c12
     obtain rfl := Option.some.inj H
     go_wp2
     go_ret
     exact ⟨by first | rfl | (simp; done) | (simp [*]; done), by repeat (first | exact Drawn0.refl _ | apply Drawn0.step)⟩
    ·rw [if_neg c12] at H
     have c12b0 : decide (1 ≤ (a0.size : Int)) = false := decide_eq_false c12
     have c12b1 : decide (1 ≤ a0.size) = false := decide_eq_false (by omega)
     clear c12
     obtain rfl := Option.some.inj H
     go_wp2
     go_ret
     exact ⟨by first | rfl | (simp; done) | (simp [*]; done), by repeat (first | exact Drawn0.refl _ | apply Drawn0.step)⟩

end Go.Proofs.Ytpkaedpgpncgpaa.Q
