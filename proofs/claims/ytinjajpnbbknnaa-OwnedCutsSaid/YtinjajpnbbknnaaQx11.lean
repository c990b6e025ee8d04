-- Written by a program of this session (xprint) out of the translation; over contracts proved by hand.
import Derived.Test.YtinjajpnbbknnaaQx0
import Derived.Test.YtinjajpnbbknnaaSq
import Derived.Test.YtinjajpnbbknnaaQx9
namespace Go.Proofs.Ytinjajpnbbknnaa.Cut2
end Go.Proofs.Ytinjajpnbbknnaa.Cut2
namespace Go.Proofs.Ytinjajpnbbknnaa.RPut
end Go.Proofs.Ytinjajpnbbknnaa.RPut
namespace Go.Proofs.Ytinjajpnbbknnaa.Split
end Go.Proofs.Ytinjajpnbbknnaa.Split
namespace Go.Proofs.Ytinjajpnbbknnaa.Q
open Go.Proofs.Ytinjajpnbbknnaa.Cut2 Go.Proofs.Ytinjajpnbbknnaa.RPut Go.Proofs.Ytinjajpnbbknnaa.Split
set_option linter.unnecessarySimpa false
open Go.RowKit Go.Proofs.YtinjajpnbbknnaaW.PrintWords Go.Proofs.YtinjajpnbbknnaaW.PrintLast Go.Proofs.YtinjajpnbbknnaaW.PrintMore
attribute [local go_sem] max2_int min2_int max_two min_two max_three min_three max_four min_four   -- for this text's walks alone
set_option linter.unusedVariables false
set_option linter.unusedSimpArgs false

/-! ### cantonref01_In: function 30 -/
mutual
def cantonref01_In.j0 : Nat → List ByteArray → List ByteArray → Bool → Option (Bool)
  | 0, _, _, _ => none
  | k + 1, x5, x7, x32 => if x32 = true then (some false) else (cantonref01_In.l0 k x5 x7 0)
def cantonref01_In.l0 : Nat → List ByteArray → List ByteArray → Int → Option (Bool)
  | 0, _, _, _ => none
  | k + 1, x5, x7, x9 => if x9 < (x7.length : Int) then (if 0 ≤ x9 then (if x9 < (x5.length : Int) then (if (rdOf ByteArray.empty x7 x9).toList = (rdOf ByteArray.empty x5 x9).toList then (cantonref01_In.l0 k x5 x7 (wrap64 (x9 + 1))) else (some false)) else (none)) else (none)) else (some true)
end
def cantonref01_In.f (k : Nat) (a0 : ByteArray) (a1 : ByteArray) : Option (Bool) := (cantonref01_Split.f k a0).bind fun bt220 => ((cantonref01_Split.f k a1).bind fun bt224 => (if bt220.2 = true then (if bt224.2 = true then (cantonref01_In.j0 k bt220.1 bt224.1 (decide ((bt224.1.length : Int) > (bt220.1.length : Int)))) else (cantonref01_In.j0 k bt220.1 bt224.1 true)) else (cantonref01_In.j0 k bt220.1 bt224.1 true)))
theorem cantonref01_In.mono_l : ∀ k, (∀ y0 y1 y2, LeO (cantonref01_In.j0 k y0 y1 y2) (cantonref01_In.j0 (k + 1) y0 y1 y2)) ∧ (∀ y0 y1 y2, LeO (cantonref01_In.l0 k y0 y1 y2) (cantonref01_In.l0 (k + 1) y0 y1 y2))
  | 0 => ⟨fun _ _ _ r h => by simp [cantonref01_In.j0] at h, fun _ _ _ r h => by simp [cantonref01_In.l0] at h⟩
  | k + 1 => by
    obtain ⟨ih0, ih1⟩ := cantonref01_In.mono_l k
    refine ⟨?_, ?_⟩
    · intro y0 y1 y2
      unfold cantonref01_In.j0
      repeat' first
      | (with_reducible exact ih0 _ _ _)
      | (with_reducible exact ih1 _ _ _)
      | (with_reducible exact cantonref01_Split.mono _ _)
      | (with_reducible exact LeO.refl _)
      | (with_reducible exact LeO.none _)
      | (with_reducible refine LeO.ite ?_ ?_)
      | (with_reducible refine LeO.bind ?_ (fun _ => ?_))
      | exact ih0 _ _ _
      | exact ih1 _ _ _
      | exact cantonref01_Split.mono _ _
      | exact LeO.none _
      | refine LeO.ite ?_ ?_
      | refine LeO.bind ?_ (fun _ => ?_)
    · intro y0 y1 y2
      unfold cantonref01_In.l0
      repeat' first
      | (with_reducible exact ih0 _ _ _)
      | (with_reducible exact ih1 _ _ _)
      | (with_reducible exact cantonref01_Split.mono _ _)
      | (with_reducible exact LeO.refl _)
      | (with_reducible exact LeO.none _)
      | (with_reducible refine LeO.ite ?_ ?_)
      | (with_reducible refine LeO.bind ?_ (fun _ => ?_))
      | exact ih0 _ _ _
      | exact ih1 _ _ _
      | exact cantonref01_Split.mono _ _
      | exact LeO.none _
      | refine LeO.ite ?_ ?_
      | refine LeO.bind ?_ (fun _ => ?_)
theorem cantonref01_In.mono : ∀ a0 a1 k, LeO (cantonref01_In.f k a0 a1) (cantonref01_In.f (k + 1) a0 a1) := by
  intro a0 a1 k
  obtain ⟨ih0, ih1⟩ := cantonref01_In.mono_l k
  unfold cantonref01_In.f
  repeat' first
      | (with_reducible exact ih0 _ _ _)
      | (with_reducible exact ih1 _ _ _)
      | (with_reducible exact cantonref01_Split.mono _ _)
      | (with_reducible exact LeO.refl _)
      | (with_reducible exact LeO.none _)
      | (with_reducible refine LeO.ite ?_ ?_)
      | (with_reducible refine LeO.bind ?_ (fun _ => ?_))
      | exact ih0 _ _ _
      | exact ih1 _ _ _
      | exact cantonref01_Split.mono _ _
      | exact LeO.none _
      | refine LeO.ite ?_ ?_
      | refine LeO.bind ?_ (fun _ => ?_)
set_option maxHeartbeats 8000000 in
set_option maxRecDepth 100000 in
theorem cantonref01_In.calls (k : Nat) (a0 : ByteArray) (a1 : ByteArray) (r : Bool) (w : World) (h : cantonref01_In.f k a0 a1 = some r) :
    Calls Try.prog 30 #[.string a0, .string a1] w fun e w' => e = .returned (.bool r) ∧ Below w.heap.size w w' := by
  have HB := am_ (Below.refl w.heap.size w)
  have H : ((cantonref01_Split.f k a0).bind fun bt220 => ((cantonref01_Split.f k a1).bind fun bt224 => (if bt220.2 = true then (if bt224.2 = true then (cantonref01_In.j0 k bt220.1 bt224.1 (decide ((bt224.1.length : Int) > (bt220.1.length : Int)))) else (cantonref01_In.j0 k bt220.1 bt224.1 true)) else (cantonref01_In.j0 k bt220.1 bt224.1 true)))) = some r := h
  clear h
  replace H := Option.bind_eq_some_iff.mp H
  obtain ⟨⟨t220, t221⟩, A30, H⟩ := H
  replace H : ((cantonref01_Split.f k a1).bind fun bt224 => (if t221 = true then (if bt224.2 = true then (cantonref01_In.j0 k t220 bt224.1 (decide ((bt224.1.length : Int) > (t220.length : Int)))) else (cantonref01_In.j0 k t220 bt224.1 true)) else (cantonref01_In.j0 k t220 bt224.1 true))) = some r := H
  have A3 := am_ A30
  clear A30
  replace H := Option.bind_eq_some_iff.mp H
  obtain ⟨⟨t224, t225⟩, A40, H⟩ := H
  replace H : (if t221 = true then (if t225 = true then (cantonref01_In.j0 k t220 t224 (decide ((t224.length : Int) > (t220.length : Int)))) else (cantonref01_In.j0 k t220 t224 true)) else (cantonref01_In.j0 k t220 t224 true)) = some r := H
  have A4 := am_ A40
  clear A40
  have HC5 := am_ H
  clear H
  go_enter Try.func30, Try.ntmps30
  go_upto_region 3 with (first | (go_at_call 49; (with_reducible refine (cantonref01_Split.calls k a0 t220 t221 _ A3.out).mono ?_); rintro e w6 ⟨v222, rfl, ho0, hb⟩; have n0_ := am_ (Kd.R_lower ho0 (below_size (kZ HB))); have n1_ := am_ (below_step (kZ HB) hb); clear HB; have HO223 := n0_; have HB := n1_; clear n0_ n1_; (try clear hb); (try clear hb2); (try clear hk); (try clear hi); (try clear ho0)) | (go_at_call 49; (with_reducible refine (cantonref01_Split.calls k a1 t224 t225 _ A4.out).mono ?_); rintro e w7 ⟨v226, rfl, ho0, hb⟩; have n0_ := am_ (Kd.R_elder' (kR HO223) (Kd.R_base ho0) hb); have n1_ := am_ (Kd.R_lower (Kd.R_new' ho0 (Kd.R_lt (kR HO223))) (below_size (kZ HB))); have n2_ := am_ (below_step (kZ HB) hb); clear HO223; clear HB; have HO223 := n0_; have HO227 := n1_; have HB := n2_; clear n0_ n1_ n2_; (try clear hb); (try clear hb2); (try clear hk); (try clear hi); (try clear ho0)))
  repeat (go_quiet (fail); go_upto_region 3 with (fail))
  (try simp only [Act.put, List.setIfInBounds_toArray, List.set_cons_zero, List.set_cons_succ])
  go_cut [32] (fun v32 wc => ∃ (kq : Nat) (x32_4 : Bool), v32 = .bool x32_4 ∧ Aside0 (cantonref01_In.j0 kq t220 t224 x32_4 = some r) ∧ Aside0 (kq ≤ k) ∧ Aside0 (Kd.R Kd.string 9 wc w.heap.size (fun k_ => some k_ ≠ (v226 : Value).ownBlock) v222 t220) ∧ Aside0 (Kd.R Kd.string 9 wc w.heap.size (fun k_ => some k_ ≠ (v222 : Value).ownBlock) v226 t224) ∧ Aside0 (Below w.heap.size w wc))
  case first =>
    have H := HC5.out
    clear HC5
    by_cases c8 : t221 = true
    rotate_left
    · replace c8 := Bool.eq_false_iff.mpr c8
      subst c8
      have H1 : (cantonref01_In.j0 k t220 t224 true) = some r := by rw [if_neg (show ¬ (false = true) by decide)] at H; exact H
      clear H
      have H := H1
      clear H1
      have H' := am_ H
      clear H
      go_wp2
      repeat (go_quiet (fail); try go_wp2)
      go_meet
      case rel => exact ⟨_, (true), e1_, H', ⟨by first | omega | exact Nat.le_refl _⟩, ⟨by refine kE ?_; exact Kd.R_mono HO223.out (fun _ hk => hk.2)⟩, ⟨by refine kE ?_; exact Kd.R_mono HO227.out (fun _ hk => hk.2)⟩, ⟨kZ HB⟩⟩
    subst c8
    have H1 : (if t225 = true then (cantonref01_In.j0 k t220 t224 (decide ((t224.length : Int) > (t220.length : Int)))) else (cantonref01_In.j0 k t220 t224 true)) = some r := by rw [if_pos rfl] at H; exact H
    clear H
    have H := H1
    clear H1
    by_cases c9 : t225 = true
    rotate_left
    · replace c9 := Bool.eq_false_iff.mpr c9
      subst c9
      have H1 : (cantonref01_In.j0 k t220 t224 true) = some r := by rw [if_neg (show ¬ (false = true) by decide)] at H; exact H
      clear H
      have H := H1
      clear H1
      have H' := am_ H
      clear H
      go_wp2
      repeat (go_quiet (fail); try go_wp2)
      go_meet
      case rel => exact ⟨_, (true), e1_, H', ⟨by first | omega | exact Nat.le_refl _⟩, ⟨by refine kE ?_; exact Kd.R_mono HO223.out (fun _ hk => hk.2)⟩, ⟨by refine kE ?_; exact Kd.R_mono HO227.out (fun _ hk => hk.2)⟩, ⟨kZ HB⟩⟩
    subst c9
    have H1 : (cantonref01_In.j0 k t220 t224 (decide ((t224.length : Int) > (t220.length : Int)))) = some r := by rw [if_pos rfl] at H; exact H
    clear H
    have H := H1
    clear H1
    have H' := am_ H
    clear H
    obtain ⟨Ao10, co10, eo10⟩ := Kd.R_slice HO227.out
    subst eo10
    obtain ⟨Ao11, co11, eo11⟩ := Kd.R_slice HO223.out
    subst eo11
    go_wp2
    repeat (go_quiet (fail); try go_wp2)
    go_meet
    case rel => exact ⟨_, (decide ((t224.length : Int) > (t220.length : Int))), e1_, H', ⟨by first | omega | exact Nat.le_refl _⟩, ⟨by refine kE ?_; exact Kd.R_mono HO223.out (fun _ hk => hk.2)⟩, ⟨by refine kE ?_; exact Kd.R_mono HO227.out (fun _ hk => hk.2)⟩, ⟨kZ HB⟩⟩
  case rest =>
    clear HC5
    try clear p2
    obtain ⟨kq, x32_4, rfl, HA, HJ4, HO_5, HO_7, HB⟩ := hcut
    cases kq with
    | zero => exact absurd HA.out (by simp [cantonref01_In.j0])
    | succ kj4 =>
      have H := HA.out
      clear HA
      simp only [cantonref01_In.j0] at H
      by_cases c12 : x32_4 = true
      · subst c12
        have H1 : (some false) = some r := by rw [if_pos rfl] at H; exact H
        clear H
        have H := H1
        clear H1
        obtain rfl := Option.some.inj H
        go_wp2
        repeat (go_quiet (fail); try go_wp2)
        go_ret
        exact ⟨e2_, kZ HB⟩
      · replace c12 := Bool.eq_false_iff.mpr c12
        subst c12
        have H1 : (cantonref01_In.l0 kj4 t220 t224 0) = some r := by rw [if_neg (show ¬ (false = true) by decide)] at H; exact H
        clear H
        have H := H1
        clear H1
        have H' := am_ H
        clear H
        go_wp2
        repeat (go_quiet (fail); try go_wp2)
        go_loopg [9] kj4 (fun kq v9 w' => ∃ (x9_2 : Int), v9 = .int .i64 x9_2 ∧ Aside0 (cantonref01_In.l0 kq t220 t224 x9_2 = some r) ∧ Aside0 (kq ≤ kj4) ∧ Aside0 (Kd.R Kd.string 9 w' w.heap.size (fun k_ => some k_ ≠ (v226 : Value).ownBlock) v222 t220) ∧ Aside0 (Kd.R Kd.string 9 w' w.heap.size (fun k_ => some k_ ≠ (v222 : Value).ownBlock) v226 t224) ∧ Aside0 (Below w.heap.size w w'))
        case atStart => exact ⟨(0), e1_, H', ⟨Nat.le_refl _⟩, ⟨kR HO_5⟩, ⟨kR HO_7⟩, ⟨kZ HB⟩⟩
        case round =>
          clear H'
          try clear p2
          try clear p2
          obtain ⟨x9_2, rfl, HA, HK2, HO_5, HO_7, HB⟩ := hrel
          cases gk with
          | zero => exact absurd HA.out (by simp [cantonref01_In.l0])
          | succ k2 =>
            have H := HA.out
            clear HA
            simp only [cantonref01_In.l0] at H
            by_cases c13 : x9_2 < (t224.length : Int)
            rotate_left
            · rw [if_neg c13] at H
              have c13b0 : decide (x9_2 < (t224.length : Int)) = false := decide_eq_false c13
              clear c13
              obtain rfl := Option.some.inj H
              obtain ⟨Ao21, co21, eo21⟩ := Kd.R_slice HO_7.out
              subst eo21
              go_wp2
              repeat (go_quiet (fail); try go_wp2)
              go_ret
              exact ⟨e2_, kZ HB⟩

            rw [if_pos c13] at H
            have c13b0 : decide (x9_2 < (t224.length : Int)) = true := decide_eq_true c13
            clear c13
            by_cases c14 : 0 ≤ x9_2
            rotate_left
            · rw [if_neg c14] at H
              exact absurd H (by simp)
            rw [if_pos c14] at H
            have c14b0 : decide (0 ≤ x9_2) = true := decide_eq_true c14
            clear c14
            by_cases c15 : x9_2 < (t220.length : Int)
            rotate_left
            · rw [if_neg c15] at H
              exact absurd H (by simp)
            rw [if_pos c15] at H
            have c15b0 : decide (x9_2 < (t220.length : Int)) = true := decide_eq_true c15
            clear c15
            by_cases c16 : (rdOf ByteArray.empty t224 x9_2).toList = (rdOf ByteArray.empty t220 x9_2).toList
            rotate_left
            · rw [if_neg c16] at H
              have c16b0 : ((rdOf ByteArray.empty t224 x9_2).toList == (rdOf ByteArray.empty t220 x9_2).toList) = false := beq_eq_false_iff_ne.mpr c16
              have c16b1 : ((rdOf ByteArray.empty t224 x9_2).toList != (rdOf ByteArray.empty t220 x9_2).toList) = true := bne_iff_ne.mpr c16
              obtain rfl := Option.some.inj H
              obtain ⟨Ao19, co19, eo19⟩ := Kd.R_slice HO_7.out
              subst eo19
              have p228 : 0 ≤ (x9_2 : Int) := od_
              have q228 : x9_2 < (t224.length : Int) := od_
              obtain ⟨ad228, e228, hx228_0⟩ := Kd.at_string (Kd.R_reads' HO_7.out).2.2 x9_2 p228 q228
              cases e228
              replace p228 := eq_true p228
              replace q228 := eq_true q228
              obtain ⟨Ao20, co20, eo20⟩ := Kd.R_slice HO_5.out
              subst eo20
              have p229 : 0 ≤ (x9_2 : Int) := od_
              have q229 : x9_2 < (t220.length : Int) := od_
              obtain ⟨ad229, e229, hx229_0⟩ := Kd.at_string (Kd.R_reads' HO_5.out).2.2 x9_2 p229 q229
              cases e229
              replace p229 := eq_true p229
              replace q229 := eq_true q229
              go_wp2
              repeat (go_quiet (fail); try go_wp2)
              go_ret
              exact ⟨e2_, kZ HB⟩
            rw [if_pos c16] at H
            have c16b0 : ((rdOf ByteArray.empty t224 x9_2).toList == (rdOf ByteArray.empty t220 x9_2).toList) = true := beq_iff_eq.mpr c16
            have c16b1 : ((rdOf ByteArray.empty t224 x9_2).toList != (rdOf ByteArray.empty t220 x9_2).toList) = false := bne_eq_false_iff_eq.mpr c16
            clear c16
            have H' := am_ H
            clear H
            obtain ⟨Ao17, co17, eo17⟩ := Kd.R_slice HO_7.out
            subst eo17
            have p228 : 0 ≤ (x9_2 : Int) := od_
            have q228 : x9_2 < (t224.length : Int) := od_
            obtain ⟨ad228, e228, hx228_0⟩ := Kd.at_string (Kd.R_reads' HO_7.out).2.2 x9_2 p228 q228
            cases e228
            replace p228 := eq_true p228
            replace q228 := eq_true q228
            obtain ⟨Ao18, co18, eo18⟩ := Kd.R_slice HO_5.out
            subst eo18
            have p229 : 0 ≤ (x9_2 : Int) := od_
            have q229 : x9_2 < (t220.length : Int) := od_
            obtain ⟨ad229, e229, hx229_0⟩ := Kd.at_string (Kd.R_reads' HO_5.out).2.2 x9_2 p229 q229
            cases e229
            replace p229 := eq_true p229
            replace q229 := eq_true q229
            go_wp2
            repeat (go_quiet (fail); try go_wp2)
            go_roundg k2
            case measure => have := HJ4.out; have := HK2.out; omega
            case rel => exact ⟨(wrap64 (x9_2 + 1)), e1_, H', ⟨by have := HJ4.out; have := HK2.out; omega⟩, ⟨kR HO_5⟩, ⟨kR HO_7⟩, ⟨kZ HB⟩⟩
end Go.Proofs.Ytinjajpnbbknnaa.Q
