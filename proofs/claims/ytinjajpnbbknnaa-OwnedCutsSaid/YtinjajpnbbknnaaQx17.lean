-- Written by a program of this session (xprint) out of the translation; over contracts proved by hand.
import Derived.Test.YtinjajpnbbknnaaQx0
import Derived.Test.YtinjajpnbbknnaaSq
import Derived.Test.YtinjajpnbbknnaaQx9
namespace Go.Proofs.Ytinjajpnbbknnaa.Cut2
end Go.Proofs.Ytinjajpnbbknnaa.Cut2
namespace Go.Proofs.Ytinjajpnbbknnaa.RPut
end Go.Proofs.Ytinjajpnbbknnaa.RPut
namespace Go.Proofs.Ytinjajpnbbknnaa.Split
end Go.Proofs.Ytinjajpnbbknnaa.Split
namespace Go.Proofs.Ytinjajpnbbknnaa.Q
open Go.Proofs.Ytinjajpnbbknnaa.Cut2 Go.Proofs.Ytinjajpnbbknnaa.RPut Go.Proofs.Ytinjajpnbbknnaa.Split
set_option linter.unnecessarySimpa false
open Go.RowKit Go.Proofs.YtinjajpnbbknnaaW.PrintWords Go.Proofs.YtinjajpnbbknnaaW.PrintLast Go.Proofs.YtinjajpnbbknnaaW.PrintMore
attribute [local go_sem] max2_int min2_int max_two min_two max_three min_three max_four min_four   -- for this text's walks alone
set_option linter.unusedVariables false
set_option linter.unusedSimpArgs false

/-! ### cantonref01_path: function 91 -/
def cantonref01_path.l0 : Nat → List ByteArray → ByteArray → Int → Option (ByteArray)
  | 0, _, _, _ => none
  | k + 1, x0, x3, x4 => if x4 < (x0.length : Int) then (if x3.size + 1 ≤ 9223372036854775807 then (if 0 ≤ x4 then (if (x3 ++ (⟨#[47]⟩ : ByteArray)).size + (rdOf ByteArray.empty x0 x4).size ≤ 9223372036854775807 then (cantonref01_path.l0 k x0 ((x3 ++ (⟨#[47]⟩ : ByteArray)) ++ (rdOf ByteArray.empty x0 x4)) (wrap64 (x4 + 1))) else (none)) else (none)) else (none)) else (some x3)
def cantonref01_path.f (k : Nat) (l0 : List ByteArray) : Option (ByteArray) := if (l0.length : Int) = 0 then (some (⟨#[47]⟩ : ByteArray)) else (cantonref01_path.l0 k l0 (⟨#[]⟩ : ByteArray) 0)
theorem cantonref01_path.mono_l : ∀ k, (∀ y0 y1 y2, LeO (cantonref01_path.l0 k y0 y1 y2) (cantonref01_path.l0 (k + 1) y0 y1 y2))
  | 0 => fun _ _ _ r h => by simp [cantonref01_path.l0] at h
  | k + 1 => by
    have ih0 := cantonref01_path.mono_l k
    · intro y0 y1 y2
      unfold cantonref01_path.l0
      repeat' first
      | (with_reducible exact ih0 _ _ _)
      | (with_reducible exact LeO.refl _)
      | (with_reducible exact LeO.none _)
      | (with_reducible refine LeO.ite ?_ ?_)
      | (with_reducible refine LeO.bind ?_ (fun _ => ?_))
      | exact ih0 _ _ _
      | exact LeO.none _
      | refine LeO.ite ?_ ?_
      | refine LeO.bind ?_ (fun _ => ?_)
theorem cantonref01_path.mono : ∀ a0 k, LeO (cantonref01_path.f k a0) (cantonref01_path.f (k + 1) a0) := by
  intro a0 k
  have ih0 := cantonref01_path.mono_l k
  unfold cantonref01_path.f
  repeat' first
      | (with_reducible exact ih0 _ _ _)
      | (with_reducible exact LeO.refl _)
      | (with_reducible exact LeO.none _)
      | (with_reducible refine LeO.ite ?_ ?_)
      | (with_reducible refine LeO.bind ?_ (fun _ => ?_))
      | exact ih0 _ _ _
      | exact LeO.none _
      | refine LeO.ite ?_ ?_
      | refine LeO.bind ?_ (fun _ => ?_)
set_option maxHeartbeats 8000000 in
set_option maxRecDepth 100000 in
theorem cantonref01_path.calls (k : Nat) (A0 : Option Addr) (c0 : Nat) (l0 : List ByteArray) (r : ByteArray) (w : World) (hr0 : Kd.C Kd.string w A0 l0.length l0) (hc0 : l0.length ≤ c0) (h : cantonref01_path.f k l0 = some r) :
    Calls Try.prog 91 #[.slice A0 l0.length c0] w fun e w' => e = .returned (.string r) ∧ Drawn0 w w' := by
  have HR0 := am_ hr0
  have HC0 := am_ hc0
  clear hr0 hc0
  have H : (if (l0.length : Int) = 0 then (some (⟨#[47]⟩ : ByteArray)) else (cantonref01_path.l0 k l0 (⟨#[]⟩ : ByteArray) 0)) = some r := h
  clear h
  by_cases c2 : (l0.length : Int) = 0
  · rw [if_pos c2] at H
    have c2b0 : ((l0.length : Int) == 0) = true := beq_iff_eq.mpr c2
    have c2b1 : ((l0.length : Int) != 0) = false := bne_eq_false_iff_eq.mpr c2
    clear c2
    obtain rfl := Option.some.inj H
    go_enter Try.func91, Try.ntmps91
    go_wp2
    go_ret
    exact ⟨e1_, dr_⟩
  · rw [if_neg c2] at H
    have c2b0 : ((l0.length : Int) == 0) = false := beq_eq_false_iff_ne.mpr c2
    have c2b1 : ((l0.length : Int) != 0) = true := bne_iff_ne.mpr c2
    have c2b2 : ¬ (l0 = []) := fun h_ => c2 (by rw [h_]; rfl)
    have H' := am_ H
    clear H
    go_enter Try.func91, Try.ntmps91
    go_wp2
    go_loopg [3, 4] k (fun kq v3 v4 w' => ∃ (x3_1 : ByteArray) (x4_1 : Int), v3 = .string x3_1 ∧ v4 = .int .i64 x4_1 ∧ Aside0 (cantonref01_path.l0 kq l0 x3_1 x4_1 = some r) ∧ Aside0 (kq ≤ k) ∧ Drawn0 w w')
    case atStart => exact ⟨((⟨#[]⟩ : ByteArray)), (0), e1_, e1_, H', ⟨Nat.le_refl _⟩, dr_⟩
    case round =>
      clear H'
      try clear c2b0
      try clear c2b1
      try clear c2b2
      try clear p2
      obtain ⟨x3_1, x4_1, rfl, rfl, HA, HK1, ⟨m1, rfl⟩⟩ := hrel
      cases gk with
      | zero => exact absurd HA.out (by simp [cantonref01_path.l0])
      | succ k1 =>
        have H := HA.out
        clear HA
        simp only [cantonref01_path.l0] at H
        by_cases c3 : x4_1 < (l0.length : Int)
        rotate_left
        · rw [if_neg c3] at H
          have c3b0 : decide (x4_1 < (l0.length : Int)) = false := decide_eq_false c3
          clear c3
          obtain rfl := Option.some.inj H
          go_wp2
          go_ret
          exact ⟨e1_, dr_⟩

        rw [if_pos c3] at H
        have c3b0 : decide (x4_1 < (l0.length : Int)) = true := decide_eq_true c3
        clear c3
        by_cases c4 : x3_1.size + 1 ≤ 9223372036854775807
        rotate_left
        · rw [if_neg c4] at H
          exact absurd H (by simp)
        rw [if_pos c4] at H
        have c4b0 := eq_true c4
        have c4b1 : decide (x3_1.size + 1 ≤ 9223372036854775807) = true := decide_eq_true c4
        try have c4b2 : (9223372036854775807 < x3_1.size + 1) = False := eq_false (Nat.not_lt.2 c4)
        by_cases c5 : 0 ≤ x4_1
        rotate_left
        · rw [if_neg c5] at H
          exact absurd H (by simp)
        rw [if_pos c5] at H
        have c5b0 : decide (0 ≤ x4_1) = true := decide_eq_true c5
        clear c5
        by_cases c6 : (x3_1 ++ (⟨#[47]⟩ : ByteArray)).size + (rdOf ByteArray.empty l0 x4_1).size ≤ 9223372036854775807
        rotate_left
        · rw [if_neg c6] at H
          exact absurd H (by simp)
        rw [if_pos c6] at H
        have c6b0 := eq_true c6
        have c6b1 : decide ((x3_1 ++ (⟨#[47]⟩ : ByteArray)).size + (rdOf ByteArray.empty l0 x4_1).size ≤ 9223372036854775807) = true := decide_eq_true c6
        try have c6b2 : (9223372036854775807 < (x3_1 ++ (⟨#[47]⟩ : ByteArray)).size + (rdOf ByteArray.empty l0 x4_1).size) = False := eq_false (Nat.not_lt.2 c6)
        have H' := am_ H
        clear H
        have p344 : 0 ≤ (x4_1 : Int) := od_
        have q344 : x4_1 < (l0.length : Int) := od_
        obtain ⟨ad344, e344, hx344_0⟩ := Kd.at_string HR0.out x4_1 p344 q344
        cases e344
        replace p344 := eq_true p344
        replace q344 := eq_true q344
        go_wp2
        go_roundg k1
        case measure => have := HK1.out; omega
        case rel => exact ⟨((x3_1 ++ (⟨#[47]⟩ : ByteArray)) ++ (rdOf ByteArray.empty l0 x4_1)), (wrap64 (x4_1 + 1)), e1_, e1_, H', ⟨by have := HK1.out; omega⟩, dr_⟩
/-! ### cantonref01_Parent: function 81 -/
def cantonref01_Parent.f (k : Nat) (a0 : ByteArray) : Option (ByteArray × Bool) := (cantonref01_Split.f k a0).bind fun bt345 => (if bt345.2 = true then (if (bt345.1.length : Int) = 0 then (some ((⟨#[]⟩ : ByteArray), false)) else (if 0 ≤ (wrap64 ((bt345.1.length : Int) - 1)) then (if (wrap64 ((bt345.1.length : Int) - 1)) ≤ (bt345.1.length : Int) then ((cantonref01_path.f k (bt345.1.take ((wrap64 ((bt345.1.length : Int) - 1)) : Int).toNat)).bind fun t353 => (some (t353, true))) else (none)) else (none))) else (some ((⟨#[]⟩ : ByteArray), false)))
theorem cantonref01_Parent.mono : ∀ a0 k, LeO (cantonref01_Parent.f k a0) (cantonref01_Parent.f (k + 1) a0) := by
  intro a0 k
  unfold cantonref01_Parent.f
  repeat' first
      | (with_reducible exact cantonref01_Split.mono _ _)
      | (with_reducible exact cantonref01_path.mono _ _)
      | (with_reducible exact LeO.refl _)
      | (with_reducible exact LeO.none _)
      | (with_reducible refine LeO.ite ?_ ?_)
      | (with_reducible refine LeO.bind ?_ (fun _ => ?_))
      | exact cantonref01_Split.mono _ _
      | exact cantonref01_path.mono _ _
      | exact LeO.none _
      | refine LeO.ite ?_ ?_
      | refine LeO.bind ?_ (fun _ => ?_)
set_option maxHeartbeats 8000000 in
set_option maxRecDepth 100000 in
theorem cantonref01_Parent.calls (k : Nat) (a0 : ByteArray) (r1 : ByteArray) (r2 : Bool) (w : World) (h : cantonref01_Parent.f k a0 = some (r1, r2)) :
    Calls Try.prog 81 #[.string a0] w fun e w' => e = .returned (.tuple #[.string r1, .bool r2]) ∧ Below w.heap.size w w' := by
  have HB := am_ (Below.refl w.heap.size w)
  have H : ((cantonref01_Split.f k a0).bind fun bt345 => (if bt345.2 = true then (if (bt345.1.length : Int) = 0 then (some ((⟨#[]⟩ : ByteArray), false)) else (if 0 ≤ (wrap64 ((bt345.1.length : Int) - 1)) then (if (wrap64 ((bt345.1.length : Int) - 1)) ≤ (bt345.1.length : Int) then ((cantonref01_path.f k (bt345.1.take ((wrap64 ((bt345.1.length : Int) - 1)) : Int).toNat)).bind fun t353 => (some (t353, true))) else (none)) else (none))) else (some ((⟨#[]⟩ : ByteArray), false)))) = some (r1, r2) := h
  clear h
  replace H := Option.bind_eq_some_iff.mp H
  obtain ⟨⟨t345, t346⟩, A20, H⟩ := H
  replace H : (if t346 = true then (if (t345.length : Int) = 0 then (some ((⟨#[]⟩ : ByteArray), false)) else (if 0 ≤ (wrap64 ((t345.length : Int) - 1)) then (if (wrap64 ((t345.length : Int) - 1)) ≤ (t345.length : Int) then ((cantonref01_path.f k (t345.take ((wrap64 ((t345.length : Int) - 1)) : Int).toNat)).bind fun t353 => (some (t353, true))) else (none)) else (none))) else (some ((⟨#[]⟩ : ByteArray), false))) = some (r1, r2) := H
  have A2 := am_ A20
  clear A20
  by_cases c3 : t346 = true
  rotate_left
  · replace c3 := Bool.eq_false_iff.mpr c3
    subst c3
    have H1 : (some ((⟨#[]⟩ : ByteArray), false)) = some (r1, r2) := by rw [if_neg (show ¬ (false = true) by decide)] at H; exact H
    clear H
    have H := H1
    clear H1
    simp only [Option.some.injEq, Prod.mk.injEq] at H
    obtain ⟨rfl, rfl⟩ := H
    go_enter Try.func81, Try.ntmps81
    go_wp2_with (first | ((with_reducible refine gate_callee (f := 49) rfl ?_); refine gL (some 8) Try.func49 #[.string a0] rfl rfl ?_; (with_reducible refine (cantonref01_Split.calls k a0 t345 false _ A2.out).mono ?_); rintro e w14 ⟨v347, rfl, ho0, hb⟩; refine ⟨_, rfl, ?_⟩; have n0_ := am_ (Kd.R_lower ho0 (below_size (kZ HB))); have n1_ := am_ (below_step (kZ HB) hb); clear HB; have HO348 := n0_; have HB := n1_; clear n0_ n1_; (try clear hb); (try clear hb2); (try clear hk); (try clear hi); (try clear ho0)))
    go_ret2
    exact ⟨e2_, kZ HB⟩

  subst c3
  have H1 : (if (t345.length : Int) = 0 then (some ((⟨#[]⟩ : ByteArray), false)) else (if 0 ≤ (wrap64 ((t345.length : Int) - 1)) then (if (wrap64 ((t345.length : Int) - 1)) ≤ (t345.length : Int) then ((cantonref01_path.f k (t345.take ((wrap64 ((t345.length : Int) - 1)) : Int).toNat)).bind fun t353 => (some (t353, true))) else (none)) else (none))) = some (r1, r2) := by rw [if_pos rfl] at H; exact H
  clear H
  have H := H1
  clear H1
  by_cases c4 : (t345.length : Int) = 0
  rotate_left
  · rw [if_neg c4] at H
    have c4b0 : ((t345.length : Int) == 0) = false := beq_eq_false_iff_ne.mpr c4
    have c4b1 : ((t345.length : Int) != 0) = true := bne_iff_ne.mpr c4
    have c4b2 : ¬ (t345 = []) := fun h_ => c4 (by rw [h_]; rfl)
    obtain ⟨ji7, hji7⟩ : ∃ j_ : Int, (wrap64 ((t345.length : Int) - 1)) = j_ := ⟨_, rfl⟩
    replace H : (if 0 ≤ (ji7) then (if (ji7) ≤ (t345.length : Int) then ((cantonref01_path.f k (t345.take ((ji7) : Int).toNat)).bind fun t353 => (some (t353, true))) else (none)) else (none)) = some (r1, r2) := by first | (rw [hji7] at H; exact H) | (simp only [hji7] at H ⊢; exact H)
    (try rw [hji7] at A2)
    have hji7w : (IntKind.i64.wrap ((t345.length : Int) - 1)) = ji7 := (i64_w _).trans hji7
    by_cases c8 : 0 ≤ (ji7)
    rotate_left
    · rw [if_neg c8] at H
      exact absurd H (by simp)
    rw [if_pos c8] at H
    have c8b0 := eq_true c8
    have c8b1 : decide (0 ≤ (ji7)) = true := decide_eq_true c8
    clear c8
    by_cases c9 : (ji7) ≤ (t345.length : Int)
    rotate_left
    · rw [if_neg c9] at H
      exact absurd H (by simp)
    rw [if_pos c9] at H
    have c9b0 := eq_true c9
    have c9b1 : decide ((ji7) ≤ (t345.length : Int)) = true := decide_eq_true c9
    clear c9
    obtain ⟨y349, hy349⟩ : ∃ y_ : List ByteArray, y_ = (t345.take ((ji7) : Int).toNat) := ⟨_, rfl⟩
    replace H : ((cantonref01_path.f k y349).bind fun t353 => (some (t353, true))) = some (r1, r2) := by first | (rw [hy349]; with_reducible exact H) | (have H2_ := (Option.bind_some _ _).symm.trans H; rw [hy349]; with_reducible exact H2_) | (have H2_ := (Option.bind_some _ _).symm.trans H; with_reducible exact H2_) | with_reducible exact H | (rw [hy349]; exact H) | exact H
    have Ny349 := am_ hy349
    clear hy349
    replace H := Option.bind_eq_some_iff.mp H
    obtain ⟨t353, A100, H⟩ := H
    replace H : (some (t353, true)) = some (r1, r2) := H
    have A10 := am_ A100
    clear A100
    simp only [Option.some.injEq, Prod.mk.injEq] at H
    obtain ⟨rfl, rfl⟩ := H
    go_enter Try.func81, Try.ntmps81
    go_wp2_with (first | ((with_reducible refine gate_callee (f := 49) rfl ?_); refine gL (some 8) Try.func49 #[.string a0] rfl rfl ?_; (with_reducible refine (cantonref01_Split.calls k a0 t345 true _ A2.out).mono ?_); rintro e w11 ⟨v347, rfl, ho0, hb⟩; refine ⟨_, rfl, ?_⟩; have n0_ := am_ (Kd.R_lower ho0 (below_size (kZ HB))); have n1_ := am_ (below_step (kZ HB) hb); clear HB; have HO348 := n0_; have HB := n1_; clear n0_ n1_; (try clear hb); (try clear hb2); (try clear hk); (try clear hi); (try clear ho0); obtain ⟨Ao12, co12, eo12⟩ := Kd.R_slice HO348.out; subst eo12; have q13 : ((ji7) : Int) ≤ ((t345.length : Int) : Int) := od_; obtain ⟨i013, hi013, _, hsz13, _⟩ := info_parts info9; have hroom13 : t345.length ≤ co12 := (Kd.R_reads' HO348.out).2.1; have hC13 : Kd.C Kd.string _ Ao12 t345.length t345 := (Kd.R_reads' HO348.out).2.2; have hcut13 := cut_to (P := Try.prog) 70 9 .i64 Try.underlying70 hi013 Ao12 t345.length co12 (ji7) (od_) q13 hroom13; have hr13 := Kd.C_take (m := ((ji7) : Int).toNat) hC13 (by omega); have hy13 : y349.length = ((ji7) : Int).toNat := (by rw [Ny349.out, List.length_take]; omega); rw [← Ny349.out] at hr13; rw [← hy13] at hcut13; have HR352 := am_ hr13; have HC352 := am_ (show y349.length ≤ co12 from by omega); clear hr13 hC13 hroom13 hi013 hsz13; have KY13 := am_ hy13; clear hy13; have KL13 := am_ (show ((ji7) : Int).toNat ≤ t345.length from by omega); replace q13 := eq_true q13) | ((with_reducible refine gate_callee (f := 91) rfl ?_); refine gL (some 23) Try.func91 #[.slice Ao12 y349.length co12] rfl rfl ?_; (with_reducible refine (cantonref01_path.calls k _ _ y349 t353 _ ?side1 ?side2 A10.out).mono ?_); (case side1 => repeat (first | exact (by repeat (first | (with_reducible exact HR352.out) | (with_reducible refine Kd.C_alloc ?_ _) | (with_reducible refine Kd.C_drewN ?_ _) | (with_reducible refine Kd.C_drew ?_) | exact HR352.out)) | (with_reducible refine Kd.C_alloc ?_ _) | (with_reducible refine Kd.C_drewN ?_ _) | (with_reducible refine Kd.C_drew ?_))); (case side2 => exact HC352.out); rintro e w' ⟨rfl, ⟨nd, rfl⟩⟩; refine ⟨_, rfl, ?_⟩))
    go_ret2
    exact ⟨by first | rfl | (simp [errW_none, errW_some] <;> rfl) | (simp only [← hji7]; first | rfl | (simp [errW_none, errW_some] <;> rfl)) | (simp [*, errW_none, errW_some] <;> rfl), kZ HB⟩
  rw [if_pos c4] at H
  have c4b0 : ((t345.length : Int) == 0) = true := beq_iff_eq.mpr c4
  have c4b1 : ((t345.length : Int) != 0) = false := bne_eq_false_iff_eq.mpr c4
  clear c4
  simp only [Option.some.injEq, Prod.mk.injEq] at H
  obtain ⟨rfl, rfl⟩ := H
  go_enter Try.func81, Try.ntmps81
  go_wp2_with (first | ((with_reducible refine gate_callee (f := 49) rfl ?_); refine gL (some 8) Try.func49 #[.string a0] rfl rfl ?_; (with_reducible refine (cantonref01_Split.calls k a0 t345 true _ A2.out).mono ?_); rintro e w5 ⟨v347, rfl, ho0, hb⟩; refine ⟨_, rfl, ?_⟩; have n0_ := am_ (Kd.R_lower ho0 (below_size (kZ HB))); have n1_ := am_ (below_step (kZ HB) hb); clear HB; have HO348 := n0_; have HB := n1_; clear n0_ n1_; (try clear hb); (try clear hb2); (try clear hk); (try clear hi); (try clear ho0); obtain ⟨Ao6, co6, eo6⟩ := Kd.R_slice HO348.out; subst eo6))
  go_ret2
  exact ⟨e2_, kZ HB⟩
/-! ### cantonref07_up: function 70 -/
def cantonref07_up.f (k : Nat) (a0 : ByteArray) : Option (ByteArray) := (cantonref01_Parent.f k a0).bind fun bt354 => (if bt354.2 = true then (some bt354.1) else (some (⟨#[47]⟩ : ByteArray)))
theorem cantonref07_up.mono : ∀ a0 k, LeO (cantonref07_up.f k a0) (cantonref07_up.f (k + 1) a0) := by
  intro a0 k
  unfold cantonref07_up.f
  repeat' first
      | (with_reducible exact cantonref01_Parent.mono _ _)
      | (with_reducible exact LeO.refl _)
      | (with_reducible exact LeO.none _)
      | (with_reducible refine LeO.ite ?_ ?_)
      | (with_reducible refine LeO.bind ?_ (fun _ => ?_))
      | exact cantonref01_Parent.mono _ _
      | exact LeO.none _
      | refine LeO.ite ?_ ?_
      | refine LeO.bind ?_ (fun _ => ?_)
set_option maxHeartbeats 8000000 in
set_option maxRecDepth 100000 in
theorem cantonref07_up.calls (k : Nat) (a0 : ByteArray) (r : ByteArray) (w : World) (h : cantonref07_up.f k a0 = some r) :
    Calls Try.prog 70 #[.string a0] w fun e w' => e = .returned (.string r) ∧ Below w.heap.size w w' := by
  have HB := am_ (Below.refl w.heap.size w)
  have H : ((cantonref01_Parent.f k a0).bind fun bt354 => (if bt354.2 = true then (some bt354.1) else (some (⟨#[47]⟩ : ByteArray)))) = some r := h
  clear h
  replace H := Option.bind_eq_some_iff.mp H
  obtain ⟨⟨t354, t355⟩, A20, H⟩ := H
  replace H : (if t355 = true then (some t354) else (some (⟨#[47]⟩ : ByteArray))) = some r := H
  have A2 := am_ A20
  clear A20
  by_cases c3 : t355 = true
  rotate_left
  · replace c3 := Bool.eq_false_iff.mpr c3
    subst c3
    have H1 : (some (⟨#[47]⟩ : ByteArray)) = some r := by rw [if_neg (show ¬ (false = true) by decide)] at H; exact H
    clear H
    have H := H1
    clear H1
    obtain rfl := Option.some.inj H
    go_enter Try.func70, Try.ntmps70
    go_wp2_with (first | ((with_reducible refine gate_callee (f := 81) rfl ?_); refine gL (some 7) Try.func81 #[.string a0] rfl rfl ?_; (with_reducible refine (cantonref01_Parent.calls k a0 t354 false _ A2.out).mono ?_); rintro e w5 ⟨rfl, hb⟩; refine ⟨_, rfl, ?_⟩; have n0_ := am_ (below_step (kZ HB) hb); clear HB; have HB := n0_; clear n0_; (try clear hb); (try clear hb2); (try clear hk); (try clear hi)))
    go_ret
    exact ⟨e2_, kZ HB⟩

  subst c3
  have H1 : (some t354) = some r := by rw [if_pos rfl] at H; exact H
  clear H
  have H := H1
  clear H1
  obtain rfl := Option.some.inj H
  go_enter Try.func70, Try.ntmps70
  go_wp2_with (first | ((with_reducible refine gate_callee (f := 81) rfl ?_); refine gL (some 7) Try.func81 #[.string a0] rfl rfl ?_; (with_reducible refine (cantonref01_Parent.calls k a0 t354 true _ A2.out).mono ?_); rintro e w4 ⟨rfl, hb⟩; refine ⟨_, rfl, ?_⟩; have n0_ := am_ (below_step (kZ HB) hb); clear HB; have HB := n0_; clear n0_; (try clear hb); (try clear hb2); (try clear hk); (try clear hi)))
  go_ret
  exact ⟨e2_, kZ HB⟩
/-! ### cantonref07_Home: function 46 -/
def cantonref07_Home.f (k : Nat) (a0 : ByteArray) : Option (ByteArray) := (cantonref07_up.f k a0).bind fun t356 => (some t356)
theorem cantonref07_Home.mono : ∀ a0 k, LeO (cantonref07_Home.f k a0) (cantonref07_Home.f (k + 1) a0) := by
  intro a0 k
  unfold cantonref07_Home.f
  repeat' first
      | (with_reducible exact cantonref07_up.mono _ _)
      | (with_reducible exact LeO.refl _)
      | (with_reducible exact LeO.none _)
      | (with_reducible refine LeO.ite ?_ ?_)
      | (with_reducible refine LeO.bind ?_ (fun _ => ?_))
      | exact cantonref07_up.mono _ _
      | exact LeO.none _
      | refine LeO.ite ?_ ?_
      | refine LeO.bind ?_ (fun _ => ?_)
set_option maxHeartbeats 8000000 in
set_option maxRecDepth 100000 in
theorem cantonref07_Home.calls (k : Nat) (a0 : ByteArray) (r : ByteArray) (w : World) (h : cantonref07_Home.f k a0 = some r) :
    Calls Try.prog 46 #[.string a0] w fun e w' => e = .returned (.string r) ∧ Below w.heap.size w w' := by
  have HB := am_ (Below.refl w.heap.size w)
  have H : ((cantonref07_up.f k a0).bind fun t356 => (some t356)) = some r := h
  clear h
  replace H := Option.bind_eq_some_iff.mp H
  obtain ⟨t356, A20, H⟩ := H
  replace H : (some t356) = some r := H
  have A2 := am_ A20
  clear A20
  obtain rfl := Option.some.inj H
  go_enter Try.func46, Try.ntmps46
  go_wp2_with (first | ((with_reducible refine gate_callee (f := 70) rfl ?_); refine gL (some 4) Try.func70 #[.string a0] rfl rfl ?_; (with_reducible refine (cantonref07_up.calls k a0 t356 _ A2.out).mono ?_); rintro e w3 ⟨rfl, hb⟩; refine ⟨_, rfl, ?_⟩; have n0_ := am_ (below_step (kZ HB) hb); clear HB; have HB := n0_; clear n0_; (try clear hb); (try clear hb2); (try clear hk); (try clear hi)))
  go_ret
  exact ⟨e2_, kZ HB⟩

end Go.Proofs.Ytinjajpnbbknnaa.Q
