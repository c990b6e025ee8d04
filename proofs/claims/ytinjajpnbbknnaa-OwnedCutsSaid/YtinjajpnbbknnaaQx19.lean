-- Written by a program of this session (xprint) out of the translation; over contracts proved by hand.
import Derived.Test.YtinjajpnbbknnaaQx0
import Derived.Test.YtinjajpnbbknnaaSq
import Derived.Test.YtinjajpnbbknnaaQx1
import Derived.Test.YtinjajpnbbknnaaQx3
namespace Go.Proofs.Ytinjajpnbbknnaa.Cut2
end Go.Proofs.Ytinjajpnbbknnaa.Cut2
namespace Go.Proofs.Ytinjajpnbbknnaa.RPut
end Go.Proofs.Ytinjajpnbbknnaa.RPut
namespace Go.Proofs.Ytinjajpnbbknnaa.Split
end Go.Proofs.Ytinjajpnbbknnaa.Split
namespace Go.Proofs.Ytinjajpnbbknnaa.Q
open Go.Proofs.Ytinjajpnbbknnaa.Cut2 Go.Proofs.Ytinjajpnbbknnaa.RPut Go.Proofs.Ytinjajpnbbknnaa.Split
set_option linter.unnecessarySimpa false
open Go.RowKit Go.Proofs.YtinjajpnbbknnaaW.PrintWords Go.Proofs.YtinjajpnbbknnaaW.PrintLast Go.Proofs.YtinjajpnbbknnaaW.PrintMore
attribute [local go_sem] max2_int min2_int max_two min_two max_three min_three max_four min_four   -- for this text's walks alone
set_option linter.unusedVariables false
set_option linter.unusedSimpArgs false

attribute [local go_sem high] eqA40 eqA59
/-! ### cantonref06_Same: function 47 -/
def cantonref06_Same.l0 : Nat → List (S40) → List (S40) → Int → Option (Bool)
  | 0, _, _, _ => none
  | k + 1, x0, x1, x5 => if x5 < (x0.length : Int) then (if 0 ≤ x5 then (if x5 < (x1.length : Int) then (if (!((((rd_T40 x0 x5).f0).toList) == (((rd_T40 x1 x5).f0).toList)) || (!((((rd_T40 x0 x5).f1).toList) == (((rd_T40 x1 x5).f1).toList)) || (!(((rd_T40 x0 x5).f2) == ((rd_T40 x1 x5).f2)) || (!(((rd_T40 x0 x5).f3) == ((rd_T40 x1 x5).f3)) || (!(((rd_T40 x0 x5).f4) == ((rd_T40 x1 x5).f4))))))) = true then (some false) else (cantonref06_Same.l0 k x0 x1 (wrap64 (x5 + 1)))) else (none)) else (none)) else (some true)
def cantonref06_Same.f (k : Nat) (l0 : List (S40)) (l1 : List (S40)) : Option (Bool) := if (l0.length : Int) = (l1.length : Int) then (cantonref06_Same.l0 k l0 l1 0) else (some false)
theorem cantonref06_Same.mono_l : ∀ k, (∀ y0 y1 y2, LeO (cantonref06_Same.l0 k y0 y1 y2) (cantonref06_Same.l0 (k + 1) y0 y1 y2))
  | 0 => fun _ _ _ r h => by simp [cantonref06_Same.l0] at h
  | k + 1 => by
    have ih0 := cantonref06_Same.mono_l k
    · intro y0 y1 y2
      unfold cantonref06_Same.l0
      repeat' first
      | (with_reducible exact ih0 _ _ _)
      | (with_reducible exact LeO.refl _)
      | (with_reducible exact LeO.none _)
      | (with_reducible refine LeO.ite ?_ ?_)
      | (with_reducible refine LeO.bind ?_ (fun _ => ?_))
      | exact ih0 _ _ _
      | exact LeO.none _
      | refine LeO.ite ?_ ?_
      | refine LeO.bind ?_ (fun _ => ?_)
theorem cantonref06_Same.mono : ∀ a0 a1 k, LeO (cantonref06_Same.f k a0 a1) (cantonref06_Same.f (k + 1) a0 a1) := by
  intro a0 a1 k
  have ih0 := cantonref06_Same.mono_l k
  unfold cantonref06_Same.f
  repeat' first
      | (with_reducible exact ih0 _ _ _)
      | (with_reducible exact LeO.refl _)
      | (with_reducible exact LeO.none _)
      | (with_reducible refine LeO.ite ?_ ?_)
      | (with_reducible refine LeO.bind ?_ (fun _ => ?_))
      | exact ih0 _ _ _
      | exact LeO.none _
      | refine LeO.ite ?_ ?_
      | refine LeO.bind ?_ (fun _ => ?_)
set_option maxHeartbeats 8000000 in
set_option maxRecDepth 100000 in
theorem cantonref06_Same.calls (k : Nat) (A0 : Option Addr) (c0 : Nat) (l0 : List (S40)) (A1 : Option Addr) (c1 : Nat) (l1 : List (S40)) (r : Bool) (w : World) (hr0 : Kd.C k40 w A0 l0.length l0) (hc0 : l0.length ≤ c0) (hr1 : Kd.C k40 w A1 l1.length l1) (hc1 : l1.length ≤ c1) (h : cantonref06_Same.f k l0 l1 = some r) :
    Calls Try.prog 47 #[.slice A0 l0.length c0, .slice A1 l1.length c1] w fun e w' => e = .returned (.bool r) ∧ Drawn0 w w' := by
  have hu40 := Try.underlying40
  have HR0 := am_ hr0
  have HC0 := am_ hc0
  clear hr0 hc0
  have HR1 := am_ hr1
  have HC1 := am_ hc1
  clear hr1 hc1
  have H : (if (l0.length : Int) = (l1.length : Int) then (cantonref06_Same.l0 k l0 l1 0) else (some false)) = some r := h
  clear h
  by_cases c3 : (l0.length : Int) = (l1.length : Int)
  rotate_left
  · rw [if_neg c3] at H
    have c3b0 : ((l0.length : Int) == (l1.length : Int)) = false := beq_eq_false_iff_ne.mpr c3
    have c3b1 : ((l0.length : Int) != (l1.length : Int)) = true := bne_iff_ne.mpr c3
    have c3b2 : (l0.length == l1.length) = false := by first | simpa using c3 | (simp at c3 ⊢; omega)
    obtain rfl := Option.some.inj H
    go_enter Try.func47, Try.ntmps47
    go_wp2
    repeat (go_quiet (fail); try go_wp2)
    go_ret
    exact ⟨e1_, dr_⟩

  rw [if_pos c3] at H
  have c3b0 : ((l0.length : Int) == (l1.length : Int)) = true := beq_iff_eq.mpr c3
  have c3b1 : ((l0.length : Int) != (l1.length : Int)) = false := bne_eq_false_iff_eq.mpr c3
  have c3b2 : (l0.length == l1.length) = true := by first | simpa using c3 | (simp at c3 ⊢; omega)
  clear c3
  have H' := am_ H
  clear H
  go_enter Try.func47, Try.ntmps47
  go_wp2
  repeat (go_quiet (fail); try go_wp2)
  go_loopg [5] k (fun kq v5 w' => ∃ (x5_1 : Int), v5 = .int .i64 x5_1 ∧ Aside0 (cantonref06_Same.l0 kq l0 l1 x5_1 = some r) ∧ Aside0 (kq ≤ k) ∧ Drawn0 w w')
  case atStart => exact ⟨(0), e1_, H', ⟨Nat.le_refl _⟩, dr_⟩
  case round =>
    clear H'
    try clear p2
    try clear c3b0
    try clear c3b1
    try clear c3b2
    obtain ⟨x5_1, rfl, HA, HK1, ⟨m1, rfl⟩⟩ := hrel
    cases gk with
    | zero => exact absurd HA.out (by simp [cantonref06_Same.l0])
    | succ k1 =>
      have H := HA.out
      clear HA
      simp only [cantonref06_Same.l0] at H
      by_cases c4 : x5_1 < (l0.length : Int)
      rotate_left
      · rw [if_neg c4] at H
        have c4b0 : decide (x5_1 < (l0.length : Int)) = false := decide_eq_false c4
        clear c4
        obtain rfl := Option.some.inj H
        go_wp2
        repeat (go_quiet (fail); try go_wp2)
        go_ret
        exact ⟨e1_, dr_⟩
      rw [if_pos c4] at H
      have c4b0 : decide (x5_1 < (l0.length : Int)) = true := decide_eq_true c4
      clear c4
      by_cases c5 : 0 ≤ x5_1
      rotate_left
      · rw [if_neg c5] at H
        exact absurd H (by simp)
      rw [if_pos c5] at H
      have c5b0 : decide (0 ≤ x5_1) = true := decide_eq_true c5
      clear c5
      by_cases c6 : x5_1 < (l1.length : Int)
      rotate_left
      · rw [if_neg c6] at H
        exact absurd H (by simp)
      rw [if_pos c6] at H
      have c6b0 : decide (x5_1 < (l1.length : Int)) = true := decide_eq_true c6
      clear c6
      by_cases c7 : (!((((rd_T40 l0 x5_1).f0).toList) == (((rd_T40 l1 x5_1).f0).toList)) || (!((((rd_T40 l0 x5_1).f1).toList) == (((rd_T40 l1 x5_1).f1).toList)) || (!(((rd_T40 l0 x5_1).f2) == ((rd_T40 l1 x5_1).f2)) || (!(((rd_T40 l0 x5_1).f3) == ((rd_T40 l1 x5_1).f3)) || (!(((rd_T40 l0 x5_1).f4) == ((rd_T40 l1 x5_1).f4))))))) = true
      rotate_left
      · rw [if_neg c7] at H
        have c7b0 : (!((((rd_T40 l0 x5_1).f0).toList) == (((rd_T40 l1 x5_1).f0).toList)) || (!((((rd_T40 l0 x5_1).f1).toList) == (((rd_T40 l1 x5_1).f1).toList)) || (!(((rd_T40 l0 x5_1).f2) == ((rd_T40 l1 x5_1).f2)) || (!(((rd_T40 l0 x5_1).f3) == ((rd_T40 l1 x5_1).f3)) || (!(((rd_T40 l0 x5_1).f4) == ((rd_T40 l1 x5_1).f4))))))) = false := by simpa using c7
        clear c7
        have H' := am_ H
        clear H
        have p395 : 0 ≤ (x5_1 : Int) := od_
        have q395 : x5_1 < (l0.length : Int) := od_
        obtain ⟨ad395, e395, hx395_0, hx395_1, hx395_2, hx395_3, hx395_4⟩ := at_T40 HR0.out x5_1 p395 q395
        cases e395
        replace p395 := eq_true p395
        replace q395 := eq_true q395
        have p396 : 0 ≤ (x5_1 : Int) := od_
        have q396 : x5_1 < (l1.length : Int) := od_
        obtain ⟨ad396, e396, hx396_0, hx396_1, hx396_2, hx396_3, hx396_4⟩ := at_T40 HR1.out x5_1 p396 q396
        cases e396
        replace p396 := eq_true p396
        replace q396 := eq_true q396
        go_wp2
        repeat (go_quiet (fail); try go_wp2)
        go_roundg k1
        case measure => have := HK1.out; omega
        case rel => exact ⟨(wrap64 (x5_1 + 1)), e1_, H', ⟨by have := HK1.out; omega⟩, dr_⟩
      rw [if_pos c7] at H
      have c7b0 : (!((((rd_T40 l0 x5_1).f0).toList) == (((rd_T40 l1 x5_1).f0).toList)) || (!((((rd_T40 l0 x5_1).f1).toList) == (((rd_T40 l1 x5_1).f1).toList)) || (!(((rd_T40 l0 x5_1).f2) == ((rd_T40 l1 x5_1).f2)) || (!(((rd_T40 l0 x5_1).f3) == ((rd_T40 l1 x5_1).f3)) || (!(((rd_T40 l0 x5_1).f4) == ((rd_T40 l1 x5_1).f4))))))) = true := c7
      clear c7
      obtain rfl := Option.some.inj H
      have p395 : 0 ≤ (x5_1 : Int) := od_
      have q395 : x5_1 < (l0.length : Int) := od_
      obtain ⟨ad395, e395, hx395_0, hx395_1, hx395_2, hx395_3, hx395_4⟩ := at_T40 HR0.out x5_1 p395 q395
      cases e395
      replace p395 := eq_true p395
      replace q395 := eq_true q395
      have p396 : 0 ≤ (x5_1 : Int) := od_
      have q396 : x5_1 < (l1.length : Int) := od_
      obtain ⟨ad396, e396, hx396_0, hx396_1, hx396_2, hx396_3, hx396_4⟩ := at_T40 HR1.out x5_1 p396 q396
      cases e396
      replace p396 := eq_true p396
      replace q396 := eq_true q396
      go_wp2
      repeat (go_quiet (fail); try go_wp2)
      go_ret
      exact ⟨e1_, dr_⟩
/-! ### cantonref07_Same: function 27 -/
mutual
def cantonref07_Same.j0 : Nat → Bool → List (S40) → List (S59) → List (S40) → List (S59) → Option (Bool)
  | 0, _, _, _, _, _ => none
  | k + 1, x20, x398000, x398001, x399000, x399001 => if x20 = true then (some false) else (cantonref07_Same.l0 k 0 x398000 x398001 x399000 x399001)
def cantonref07_Same.l0 : Nat → Int → List (S40) → List (S59) → List (S40) → List (S59) → Option (Bool)
  | 0, _, _, _, _, _ => none
  | k + 1, x5, x398000, x398001, x399000, x399001 => if x5 < (x398001.length : Int) then (if 0 ≤ x5 then (if x5 < (x399001.length : Int) then (if (!((((rd_T59 x398001 x5).f0).toList) == (((rd_T59 x399001 x5).f0).toList)) || (!(((rd_T59 x398001 x5).f1) == ((rd_T59 x399001 x5).f1)))) = true then (some false) else (cantonref07_Same.l0 k (wrap64 (x5 + 1)) x398000 x398001 x399000 x399001)) else (none)) else (none)) else (some true)
end
def cantonref07_Same.f (k : Nat) (l0_0 : List (S40)) (l0_1 : List (S59)) (l1_0 : List (S40)) (l1_1 : List (S59)) : Option (Bool) := (cantonref06_Same.f k l0_0 l1_0).bind fun t399 => (if t399 = true then (cantonref07_Same.j0 k ((l0_1.length : Int) != (l1_1.length : Int)) l0_0 l0_1 l1_0 l1_1) else (cantonref07_Same.j0 k true l0_0 l0_1 l1_0 l1_1))
theorem cantonref07_Same.mono_l : ∀ k, (∀ y0 y1 y2 y3 y4, LeO (cantonref07_Same.j0 k y0 y1 y2 y3 y4) (cantonref07_Same.j0 (k + 1) y0 y1 y2 y3 y4)) ∧ (∀ y0 y1 y2 y3 y4, LeO (cantonref07_Same.l0 k y0 y1 y2 y3 y4) (cantonref07_Same.l0 (k + 1) y0 y1 y2 y3 y4))
  | 0 => ⟨fun _ _ _ _ _ r h => by simp [cantonref07_Same.j0] at h, fun _ _ _ _ _ r h => by simp [cantonref07_Same.l0] at h⟩
  | k + 1 => by
    obtain ⟨ih0, ih1⟩ := cantonref07_Same.mono_l k
    refine ⟨?_, ?_⟩
    · intro y0 y1 y2 y3 y4
      unfold cantonref07_Same.j0
      repeat' first
      | (with_reducible exact ih0 _ _ _ _ _)
      | (with_reducible exact ih1 _ _ _ _ _)
      | (with_reducible exact cantonref06_Same.mono _ _ _)
      | (with_reducible exact LeO.refl _)
      | (with_reducible exact LeO.none _)
      | (with_reducible refine LeO.ite ?_ ?_)
      | (with_reducible refine LeO.bind ?_ (fun _ => ?_))
      | exact ih0 _ _ _ _ _
      | exact ih1 _ _ _ _ _
      | exact cantonref06_Same.mono _ _ _
      | exact LeO.none _
      | refine LeO.ite ?_ ?_
      | refine LeO.bind ?_ (fun _ => ?_)
    · intro y0 y1 y2 y3 y4
      unfold cantonref07_Same.l0
      repeat' first
      | (with_reducible exact ih0 _ _ _ _ _)
      | (with_reducible exact ih1 _ _ _ _ _)
      | (with_reducible exact cantonref06_Same.mono _ _ _)
      | (with_reducible exact LeO.refl _)
      | (with_reducible exact LeO.none _)
      | (with_reducible refine LeO.ite ?_ ?_)
      | (with_reducible refine LeO.bind ?_ (fun _ => ?_))
      | exact ih0 _ _ _ _ _
      | exact ih1 _ _ _ _ _
      | exact cantonref06_Same.mono _ _ _
      | exact LeO.none _
      | refine LeO.ite ?_ ?_
      | refine LeO.bind ?_ (fun _ => ?_)
theorem cantonref07_Same.mono : ∀ a0 a1 a2 a3 k, LeO (cantonref07_Same.f k a0 a1 a2 a3) (cantonref07_Same.f (k + 1) a0 a1 a2 a3) := by
  intro a0 a1 a2 a3 k
  obtain ⟨ih0, ih1⟩ := cantonref07_Same.mono_l k
  unfold cantonref07_Same.f
  repeat' first
      | (with_reducible exact ih0 _ _ _ _ _)
      | (with_reducible exact ih1 _ _ _ _ _)
      | (with_reducible exact cantonref06_Same.mono _ _ _)
      | (with_reducible exact LeO.refl _)
      | (with_reducible exact LeO.none _)
      | (with_reducible refine LeO.ite ?_ ?_)
      | (with_reducible refine LeO.bind ?_ (fun _ => ?_))
      | exact ih0 _ _ _ _ _
      | exact ih1 _ _ _ _ _
      | exact cantonref06_Same.mono _ _ _
      | exact LeO.none _
      | refine LeO.ite ?_ ?_
      | refine LeO.bind ?_ (fun _ => ?_)
set_option maxHeartbeats 8000000 in
set_option maxRecDepth 100000 in
theorem cantonref07_Same.calls (k : Nat) (A0_0 : Option Addr) (c0_0 : Nat) (l0_0 : List (S40)) (A0_1 : Option Addr) (c0_1 : Nat) (l0_1 : List (S59)) (A1_0 : Option Addr) (c1_0 : Nat) (l1_0 : List (S40)) (A1_1 : Option Addr) (c1_1 : Nat) (l1_1 : List (S59)) (r : Bool) (w : World) (hr0_0 : Kd.C k40 w A0_0 l0_0.length l0_0) (hc0_0 : l0_0.length ≤ c0_0) (hr0_1 : Kd.C k59 w A0_1 l0_1.length l0_1) (hc0_1 : l0_1.length ≤ c0_1) (hr1_0 : Kd.C k40 w A1_0 l1_0.length l1_0) (hc1_0 : l1_0.length ≤ c1_0) (hr1_1 : Kd.C k59 w A1_1 l1_1.length l1_1) (hc1_1 : l1_1.length ≤ c1_1) (h : cantonref07_Same.f k l0_0 l0_1 l1_0 l1_1 = some r) :
    Calls Try.prog 27 #[.agg #[.slice A0_0 l0_0.length c0_0, .slice A0_1 l0_1.length c0_1], .agg #[.slice A1_0 l1_0.length c1_0, .slice A1_1 l1_1.length c1_1]] w fun e w' => e = .returned (.bool r) ∧ Below w.heap.size w w' := by
  have hu34 := Try.underlying34
  have hu59 := Try.underlying59
  have HR0_0 := am_ hr0_0
  have HC0_0 := am_ hc0_0
  clear hr0_0 hc0_0
  have HR0_1 := am_ hr0_1
  have HC0_1 := am_ hc0_1
  clear hr0_1 hc0_1
  have HR1_0 := am_ hr1_0
  have HC1_0 := am_ hc1_0
  clear hr1_0 hc1_0
  have HR1_1 := am_ hr1_1
  have HC1_1 := am_ hc1_1
  clear hr1_1 hc1_1
  have HB := am_ (Below.refl w.heap.size w)
  have H : ((cantonref06_Same.f k l0_0 l1_0).bind fun t399 => (if t399 = true then (cantonref07_Same.j0 k ((l0_1.length : Int) != (l1_1.length : Int)) l0_0 l0_1 l1_0 l1_1) else (cantonref07_Same.j0 k true l0_0 l0_1 l1_0 l1_1))) = some r := h
  clear h
  have HC3 := am_ H
  clear H
  go_enter Try.func27, Try.ntmps27
  go_upto_region 1 with (first | ((with_reducible refine gate_dst (N := 2) rfl ?_); (try (refine gate_guard (by rfl) ?_; dsimp only)); refine box_event ?hg (N := 2) ?hd (cs := #[.slice A0_0 l0_0.length c0_0, .slice A0_1 l0_1.length c0_1]) (t := 34) ?hr ?_; (case hd => rfl); (case hg => rfl); (case hr => first | (go_simp; done) | (go_simp; rfl)); intro gb397 hg w4 hbox hb; have n0_ := am_ (below_step (kZ HB) hb); have n1_ := am_ (hbox); have n2_ := am_ (gW hg (kZ HB)); have n3_ := am_ (gW hg (kZ HB)); clear HB; have HB := n0_; have BK397 := n1_; have GW397 := n2_; have GE397 := n3_; clear n0_ n1_ n2_ n3_; clear hb hbox hg) | ((with_reducible refine gate_dst (N := 3) rfl ?_); (try (refine gate_guard (by rfl) ?_; dsimp only)); refine box_event ?hg (N := 3) ?hd (cs := #[.slice A1_0 l1_0.length c1_0, .slice A1_1 l1_1.length c1_1]) (t := 34) ?hr ?_; (case hd => rfl); (case hg => rfl); (case hr => first | (go_simp; done) | (go_simp; rfl)); intro gb398 hg w5 hbox hb; have n0_ := am_ (blk_below (kB BK397) hb); have n1_ := am_ (below_step (kZ HB) hb); have n2_ := am_ (hbox); have n3_ := am_ (gW hg (kZ HB)); have n4_ := am_ (gW hg (kZ HB)); have n5_ := am_ (gN hg (kB BK397)); have n6_ := am_ (gM hg (kB BK397)); clear BK397; clear HB; have BK397 := n0_; have HB := n1_; have BK398 := n2_; have GW398 := n3_; have GE398 := n4_; have NB397_398 := n5_; have NB398_397 := n6_; clear n0_ n1_ n2_ n3_ n4_ n5_ n6_; clear hb hbox hg))
  repeat (go_quiet (fail); go_upto_region 1 with (fail))
  (try simp only [Act.put, List.setIfInBounds_toArray, List.set_cons_zero, List.set_cons_succ])
  go_cut [20] (fun v20 wc => ∃ (kq : Nat) (x20_2 : Bool), v20 = .bool x20_2 ∧ Aside0 (cantonref07_Same.j0 kq x20_2 l0_0 l0_1 l1_0 l1_1 = some r) ∧ Aside0 (kq ≤ k) ∧ Aside0 (wc.heap[gb397]? = some (.cells #[(.slice A0_0 l0_0.length c0_0), (.slice A0_1 l0_1.length c0_1)] 34 (0, 0))) ∧ Aside0 (wc.heap[gb398]? = some (.cells #[(.slice A1_0 l1_0.length c1_0), (.slice A1_1 l1_1.length c1_1)] 34 (0, 0))) ∧ Aside0 (Below w.heap.size w wc))
  case first =>
    have H := HC3.out
    clear HC3
    replace H := Option.bind_eq_some_iff.mp H
    obtain ⟨t399, A60, H⟩ := H
    replace H : (if t399 = true then (cantonref07_Same.j0 k ((l0_1.length : Int) != (l1_1.length : Int)) l0_0 l0_1 l1_0 l1_1) else (cantonref07_Same.j0 k true l0_0 l0_1 l1_0 l1_1)) = some r := H
    have A6 := am_ A60
    clear A60
    by_cases c7 : t399 = true
    rotate_left
    · replace c7 := Bool.eq_false_iff.mpr c7
      subst c7
      have H1 : (cantonref07_Same.j0 k true l0_0 l0_1 l1_0 l1_1) = some r := by rw [if_neg (show ¬ (false = true) by decide)] at H; exact H
      clear H
      have H := H1
      clear H1
      have H' := am_ H
      clear H
      have hnb11 := NB397_398.out
      have hnc11 := NB398_397.out
      have hcz12_0 : w5.cell? ⟨gb397, 0, none⟩ = some (.slice A0_0 l0_0.length c0_0) := (blk_cell BK397.out 0).trans rfl
      have hcz12_1 : w5.cell? ⟨gb397, 1, none⟩ = some (.slice A0_1 l0_1.length c0_1) := (blk_cell BK397.out 1).trans rfl
      have hfz12_0 := blk_frozen BK397.out 0
      have hfz12_1 := blk_frozen BK397.out 1
      have hcz13_0 : w5.cell? ⟨gb398, 0, none⟩ = some (.slice A1_0 l1_0.length c1_0) := (blk_cell BK398.out 0).trans rfl
      have hcz13_1 : w5.cell? ⟨gb398, 1, none⟩ = some (.slice A1_1 l1_1.length c1_1) := (blk_cell BK398.out 1).trans rfl
      have hfz13_0 := blk_frozen BK398.out 0
      have hfz13_1 := blk_frozen BK398.out 1
      go_wp2_with (first | (go_at_call 47; (with_reducible refine (cantonref06_Same.calls k _ _ l0_0 _ _ l1_0 false _ ?side1 ?side2 ?side3 ?side4 A6.out).mono ?_); (case side1 => exact kC ((Kd.C_below HR0_0.out HB.out))); (case side2 => exact HC0_0.out); (case side3 => exact kC ((Kd.C_below HR1_0.out HB.out))); (case side4 => exact HC1_0.out); rintro e w' ⟨rfl, ⟨nd, rfl⟩⟩; (try first | exact ⟨rfl, _, World.drewN_drewN _ _ _⟩ | exact ⟨rfl, _, Eq.trans (World.drewN_drewN _ _ _) (congrArg (World.drewN _) (Nat.add_assoc _ _ _))⟩)))
      repeat (go_quiet (fail); try go_wp2_with (fail))
      go_meet
      case rel => exact ⟨_, (true), e1_, H', ⟨by first | omega | exact Nat.le_refl _⟩, ⟨kB BK397⟩, ⟨kB BK398⟩, ⟨kZ HB⟩⟩
    subst c7
    have H1 : (cantonref07_Same.j0 k ((l0_1.length : Int) != (l1_1.length : Int)) l0_0 l0_1 l1_0 l1_1) = some r := by rw [if_pos rfl] at H; exact H
    clear H
    have H := H1
    clear H1
    have H' := am_ H
    clear H
    have hnb8 := NB397_398.out
    have hnc8 := NB398_397.out
    have hcz9_0 : w5.cell? ⟨gb397, 0, none⟩ = some (.slice A0_0 l0_0.length c0_0) := (blk_cell BK397.out 0).trans rfl
    have hcz9_1 : w5.cell? ⟨gb397, 1, none⟩ = some (.slice A0_1 l0_1.length c0_1) := (blk_cell BK397.out 1).trans rfl
    have hfz9_0 := blk_frozen BK397.out 0
    have hfz9_1 := blk_frozen BK397.out 1
    have hcz10_0 : w5.cell? ⟨gb398, 0, none⟩ = some (.slice A1_0 l1_0.length c1_0) := (blk_cell BK398.out 0).trans rfl
    have hcz10_1 : w5.cell? ⟨gb398, 1, none⟩ = some (.slice A1_1 l1_1.length c1_1) := (blk_cell BK398.out 1).trans rfl
    have hfz10_0 := blk_frozen BK398.out 0
    have hfz10_1 := blk_frozen BK398.out 1
    go_wp2_with (first | (go_at_call 47; (with_reducible refine (cantonref06_Same.calls k _ _ l0_0 _ _ l1_0 true _ ?side1 ?side2 ?side3 ?side4 A6.out).mono ?_); (case side1 => exact kC ((Kd.C_below HR0_0.out HB.out))); (case side2 => exact HC0_0.out); (case side3 => exact kC ((Kd.C_below HR1_0.out HB.out))); (case side4 => exact HC1_0.out); rintro e w' ⟨rfl, ⟨nd, rfl⟩⟩; (try first | exact ⟨rfl, _, World.drewN_drewN _ _ _⟩ | exact ⟨rfl, _, Eq.trans (World.drewN_drewN _ _ _) (congrArg (World.drewN _) (Nat.add_assoc _ _ _))⟩)))
    repeat (go_quiet (fail); try go_wp2_with (fail))
    go_meet
    case rel => exact ⟨_, (((l0_1.length : Int) != (l1_1.length : Int))), e1_, H', ⟨by first | omega | exact Nat.le_refl _⟩, ⟨kB BK397⟩, ⟨kB BK398⟩, ⟨kZ HB⟩⟩
  case rest =>
    clear HC3
    try clear p2
    obtain ⟨kq, x20_2, rfl, HA, HJ2, BK397, BK398, HB⟩ := hcut
    cases kq with
    | zero => exact absurd HA.out (by simp [cantonref07_Same.j0])
    | succ kj2 =>
      have H := HA.out
      clear HA
      simp only [cantonref07_Same.j0] at H
      by_cases c14 : x20_2 = true
      · subst c14
        have H1 : (some false) = some r := by rw [if_pos rfl] at H; exact H
        clear H
        have H := H1
        clear H1
        obtain rfl := Option.some.inj H
        go_wp2
        repeat (go_quiet (fail); try go_wp2)
        go_ret
        exact ⟨e2_, kZ HB⟩
      · replace c14 := Bool.eq_false_iff.mpr c14
        subst c14
        have H1 : (cantonref07_Same.l0 kj2 0 l0_0 l0_1 l1_0 l1_1) = some r := by rw [if_neg (show ¬ (false = true) by decide)] at H; exact H
        clear H
        have H := H1
        clear H1
        have H' := am_ H
        clear H
        go_wp2
        repeat (go_quiet (fail); try go_wp2)
        go_loopg [5] kj2 (fun kq v5 w' => ∃ (x5_2 : Int), v5 = .int .i64 x5_2 ∧ Aside0 (cantonref07_Same.l0 kq x5_2 l0_0 l0_1 l1_0 l1_1 = some r) ∧ Aside0 (kq ≤ kj2) ∧ Aside0 (w'.heap[gb397]? = some (.cells #[(.slice A0_0 l0_0.length c0_0), (.slice A0_1 l0_1.length c0_1)] 34 (0, 0))) ∧ Aside0 (w'.heap[gb398]? = some (.cells #[(.slice A1_0 l1_0.length c1_0), (.slice A1_1 l1_1.length c1_1)] 34 (0, 0))) ∧ Aside0 (Below w.heap.size w w'))
        case atStart => exact ⟨(0), e1_, H', ⟨Nat.le_refl _⟩, ⟨kB BK397⟩, ⟨kB BK398⟩, ⟨kZ HB⟩⟩
        case round =>
          clear H'
          try clear p2
          try clear p2
          obtain ⟨x5_2, rfl, HA, HK2, BK397, BK398, HB⟩ := hrel
          cases gk with
          | zero => exact absurd HA.out (by simp [cantonref07_Same.l0])
          | succ k2 =>
            have H := HA.out
            clear HA
            simp only [cantonref07_Same.l0] at H
            by_cases c15 : x5_2 < (l0_1.length : Int)
            rotate_left
            · rw [if_neg c15] at H
              have c15b0 : decide (x5_2 < (l0_1.length : Int)) = false := decide_eq_false c15
              clear c15
              obtain rfl := Option.some.inj H
              have hnb25 := NB397_398.out
              have hnc25 := NB398_397.out
              have hcz26_0 : wr.cell? ⟨gb397, 0, none⟩ = some (.slice A0_0 l0_0.length c0_0) := (blk_cell BK397.out 0).trans rfl
              have hcz26_1 : wr.cell? ⟨gb397, 1, none⟩ = some (.slice A0_1 l0_1.length c0_1) := (blk_cell BK397.out 1).trans rfl
              have hfz26_0 := blk_frozen BK397.out 0
              have hfz26_1 := blk_frozen BK397.out 1
              go_wp2
              repeat (go_quiet (fail); try go_wp2)
              go_ret
              exact ⟨e2_, kZ HB⟩

            rw [if_pos c15] at H
            have c15b0 : decide (x5_2 < (l0_1.length : Int)) = true := decide_eq_true c15
            clear c15
            by_cases c16 : 0 ≤ x5_2
            rotate_left
            · rw [if_neg c16] at H
              exact absurd H (by simp)
            rw [if_pos c16] at H
            have c16b0 : decide (0 ≤ x5_2) = true := decide_eq_true c16
            clear c16
            by_cases c17 : x5_2 < (l1_1.length : Int)
            rotate_left
            · rw [if_neg c17] at H
              exact absurd H (by simp)
            rw [if_pos c17] at H
            have c17b0 : decide (x5_2 < (l1_1.length : Int)) = true := decide_eq_true c17
            clear c17
            by_cases c18 : (!((((rd_T59 l0_1 x5_2).f0).toList) == (((rd_T59 l1_1 x5_2).f0).toList)) || (!(((rd_T59 l0_1 x5_2).f1) == ((rd_T59 l1_1 x5_2).f1)))) = true
            rotate_left
            · rw [if_neg c18] at H
              have c18b0 : (!((((rd_T59 l0_1 x5_2).f0).toList) == (((rd_T59 l1_1 x5_2).f0).toList)) || (!(((rd_T59 l0_1 x5_2).f1) == ((rd_T59 l1_1 x5_2).f1)))) = false := by simpa using c18
              clear c18
              have H' := am_ H
              clear H
              have hnb22 := NB397_398.out
              have hnc22 := NB398_397.out
              have hcz23_0 : wr.cell? ⟨gb397, 0, none⟩ = some (.slice A0_0 l0_0.length c0_0) := (blk_cell BK397.out 0).trans rfl
              have hcz23_1 : wr.cell? ⟨gb397, 1, none⟩ = some (.slice A0_1 l0_1.length c0_1) := (blk_cell BK397.out 1).trans rfl
              have hfz23_0 := blk_frozen BK397.out 0
              have hfz23_1 := blk_frozen BK397.out 1
              have p400 : 0 ≤ (x5_2 : Int) := od_
              have q400 : x5_2 < (l0_1.length : Int) := od_
              obtain ⟨ad400, e400, hx400_0, hx400_1⟩ := at_T59 HR0_1.out x5_2 p400 q400
              cases e400
              replace hx400_0 := pw_cell_below HB.out hx400_0
              replace hx400_1 := pw_cell_below HB.out hx400_1
              replace p400 := eq_true p400
              replace q400 := eq_true q400
              have hcz24_0 : wr.cell? ⟨gb398, 0, none⟩ = some (.slice A1_0 l1_0.length c1_0) := (blk_cell BK398.out 0).trans rfl
              have hcz24_1 : wr.cell? ⟨gb398, 1, none⟩ = some (.slice A1_1 l1_1.length c1_1) := (blk_cell BK398.out 1).trans rfl
              have hfz24_0 := blk_frozen BK398.out 0
              have hfz24_1 := blk_frozen BK398.out 1
              have p401 : 0 ≤ (x5_2 : Int) := od_
              have q401 : x5_2 < (l1_1.length : Int) := od_
              obtain ⟨ad401, e401, hx401_0, hx401_1⟩ := at_T59 HR1_1.out x5_2 p401 q401
              cases e401
              replace hx401_0 := pw_cell_below HB.out hx401_0
              replace hx401_1 := pw_cell_below HB.out hx401_1
              replace p401 := eq_true p401
              replace q401 := eq_true q401
              go_wp2
              repeat (go_quiet (fail); try go_wp2)
              go_roundg k2
              case measure => have := HJ2.out; have := HK2.out; omega
              case rel => exact ⟨(wrap64 (x5_2 + 1)), e1_, H', ⟨by have := HJ2.out; have := HK2.out; omega⟩, ⟨kB BK397⟩, ⟨kB BK398⟩, ⟨kZ HB⟩⟩
            rw [if_pos c18] at H
            have c18b0 : (!((((rd_T59 l0_1 x5_2).f0).toList) == (((rd_T59 l1_1 x5_2).f0).toList)) || (!(((rd_T59 l0_1 x5_2).f1) == ((rd_T59 l1_1 x5_2).f1)))) = true := c18
            clear c18
            obtain rfl := Option.some.inj H
            have hnb19 := NB397_398.out
            have hnc19 := NB398_397.out
            have hcz20_0 : wr.cell? ⟨gb397, 0, none⟩ = some (.slice A0_0 l0_0.length c0_0) := (blk_cell BK397.out 0).trans rfl
            have hcz20_1 : wr.cell? ⟨gb397, 1, none⟩ = some (.slice A0_1 l0_1.length c0_1) := (blk_cell BK397.out 1).trans rfl
            have hfz20_0 := blk_frozen BK397.out 0
            have hfz20_1 := blk_frozen BK397.out 1
            have p400 : 0 ≤ (x5_2 : Int) := od_
            have q400 : x5_2 < (l0_1.length : Int) := od_
            obtain ⟨ad400, e400, hx400_0, hx400_1⟩ := at_T59 HR0_1.out x5_2 p400 q400
            cases e400
            replace hx400_0 := pw_cell_below HB.out hx400_0
            replace hx400_1 := pw_cell_below HB.out hx400_1
            replace p400 := eq_true p400
            replace q400 := eq_true q400
            have hcz21_0 : wr.cell? ⟨gb398, 0, none⟩ = some (.slice A1_0 l1_0.length c1_0) := (blk_cell BK398.out 0).trans rfl
            have hcz21_1 : wr.cell? ⟨gb398, 1, none⟩ = some (.slice A1_1 l1_1.length c1_1) := (blk_cell BK398.out 1).trans rfl
            have hfz21_0 := blk_frozen BK398.out 0
            have hfz21_1 := blk_frozen BK398.out 1
            have p401 : 0 ≤ (x5_2 : Int) := od_
            have q401 : x5_2 < (l1_1.length : Int) := od_
            obtain ⟨ad401, e401, hx401_0, hx401_1⟩ := at_T59 HR1_1.out x5_2 p401 q401
            cases e401
            replace hx401_0 := pw_cell_below HB.out hx401_0
            replace hx401_1 := pw_cell_below HB.out hx401_1
            replace p401 := eq_true p401
            replace q401 := eq_true q401
            go_wp2
            repeat (go_quiet (fail); try go_wp2)
            go_ret
            exact ⟨e2_, kZ HB⟩
end Go.Proofs.Ytinjajpnbbknnaa.Q
