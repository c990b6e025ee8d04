-- Written by a program of this session (xprint) out of the translation; over contracts proved by hand.
import Derived.Test.YtopgenipifhjfaaDoorQx0
import Derived.Test.YtopgenipifhjfaaDoorQx1
import Derived.Test.YtopgenipifhjfaaDoorQx2
namespace Go.Proofs.YtopgenipifhjfaaDoor.Itoa
end Go.Proofs.YtopgenipifhjfaaDoor.Itoa
namespace Go.Proofs.YtopgenipifhjfaaDoor.Split
end Go.Proofs.YtopgenipifhjfaaDoor.Split
namespace Go.Proofs.YtopgenipifhjfaaDoor.Q
open Go.Proofs.YtopgenipifhjfaaDoor.Itoa Go.Proofs.YtopgenipifhjfaaDoor.Split
set_option linter.unnecessarySimpa false
open Go.RowKit Go.Proofs.YtopgenipifhjfaaDoorW.PrintWords Go.Proofs.YtopgenipifhjfaaDoorW.PrintLast Go.Proofs.YtopgenipifhjfaaDoorW.PrintMore
attribute [local go_sem] max2_int min2_int max_two min_two max_three min_three max_four min_four   -- for this text's walks alone
set_option linter.unusedVariables false
set_option linter.unusedSimpArgs false

/-! ### cantonlaw01_PathIn: function 5 -/
mutual
def cantonlaw01_PathIn.j0 : Nat → ByteArray → ByteArray → ByteArray → Bool → Bool → Option (Bool)
  | 0, _, _, _, _, _ => none
  | k + 1, x0, x1, x2, x7, x23 => if x23 = true then (some x7) else ((path_In.f k x0 x0).bind fun t245 => ((path_Right.f x0).bind fun t246 => (if (t245 != t246) = true then (cantonlaw01_PathIn.j1 k x0 x1 x2 x7 true) else ((path_In.f k x0 (⟨#[47]⟩ : ByteArray)).bind fun t247 => ((path_Right.f x0).bind fun t248 => (cantonlaw01_PathIn.j1 k x0 x1 x2 x7 (t247 != t248)))))))
def cantonlaw01_PathIn.j1 : Nat → ByteArray → ByteArray → ByteArray → Bool → Bool → Option (Bool)
  | 0, _, _, _, _, _ => none
  | k + 1, x0, x1, x2, x7, x37 => if x37 = true then (some false) else ((path_In.f k x0 x1).bind fun t249 => (if t249 = true then ((path_In.f k x1 x2).bind fun t250 => (if t250 = true then ((path_In.f k x0 x2).bind fun t251 => (if t251 = true then ((path_In.f k x0 x1).bind fun t252 => (if t252 = true then ((path_In.f k x1 x0).bind fun t253 => (if t253 = true then (cantonlaw01_PathIn.j2 k x0 x7 (x0.toList != x1.toList)) else (cantonlaw01_PathIn.j2 k x0 x7 false))) else (cantonlaw01_PathIn.j2 k x0 x7 false))) else (cantonlaw01_PathIn.j2 k x0 x7 true))) else ((path_In.f k x0 x1).bind fun t254 => (if t254 = true then ((path_In.f k x1 x0).bind fun t255 => (if t255 = true then (cantonlaw01_PathIn.j2 k x0 x7 (x0.toList != x1.toList)) else (cantonlaw01_PathIn.j2 k x0 x7 false))) else (cantonlaw01_PathIn.j2 k x0 x7 false))))) else ((path_In.f k x0 x1).bind fun t256 => (if t256 = true then ((path_In.f k x1 x0).bind fun t257 => (if t257 = true then (cantonlaw01_PathIn.j2 k x0 x7 (x0.toList != x1.toList)) else (cantonlaw01_PathIn.j2 k x0 x7 false))) else (cantonlaw01_PathIn.j2 k x0 x7 false)))))
def cantonlaw01_PathIn.j2 : Nat → ByteArray → Bool → Bool → Option (Bool)
  | 0, _, _, _ => none
  | k + 1, x0, x7, x66 => if x66 = true then (some false) else ((path_Parent.f k x0).bind fun bt258 => (if x7 = true then (if bt258.2 = true then ((path_In.f k x0 bt258.1).bind fun t260 => (if t260 = true then ((path_In.f k bt258.1 x0).bind fun t261 => (some (!t261))) else (some false))) else (some true)) else (some false)))
end
def cantonlaw01_PathIn.f (k : Nat) (a0 : ByteArray) (a1 : ByteArray) (a2 : ByteArray) : Option (Bool) := (cantonlaw01_head.f k).bind fun t244 => (if (a0.size : Int) > 3000 then (cantonlaw01_PathIn.j0 k a0 a1 a2 t244 true) else (if (a1.size : Int) > 3000 then (cantonlaw01_PathIn.j0 k a0 a1 a2 t244 true) else (cantonlaw01_PathIn.j0 k a0 a1 a2 t244 (decide ((a2.size : Int) > 3000)))))
theorem cantonlaw01_PathIn.mono_l : ∀ k, (∀ y0 y1 y2 y3 y4, LeO (cantonlaw01_PathIn.j0 k y0 y1 y2 y3 y4) (cantonlaw01_PathIn.j0 (k + 1) y0 y1 y2 y3 y4)) ∧ (∀ y0 y1 y2 y3 y4, LeO (cantonlaw01_PathIn.j1 k y0 y1 y2 y3 y4) (cantonlaw01_PathIn.j1 (k + 1) y0 y1 y2 y3 y4)) ∧ (∀ y0 y1 y2, LeO (cantonlaw01_PathIn.j2 k y0 y1 y2) (cantonlaw01_PathIn.j2 (k + 1) y0 y1 y2))
  | 0 => ⟨fun _ _ _ _ _ r h => by simp [cantonlaw01_PathIn.j0] at h, fun _ _ _ _ _ r h => by simp [cantonlaw01_PathIn.j1] at h, fun _ _ _ r h => by simp [cantonlaw01_PathIn.j2] at h⟩
  | k + 1 => by
    obtain ⟨ih0, ih1, ih2⟩ := cantonlaw01_PathIn.mono_l k
    refine ⟨?_, ?_, ?_⟩
    · intro y0 y1 y2 y3 y4
      unfold cantonlaw01_PathIn.j0
      repeat' first
      | (with_reducible exact ih0 _ _ _ _ _)
      | (with_reducible exact ih1 _ _ _ _ _)
      | (with_reducible exact ih2 _ _ _)
      | (with_reducible exact cantonlaw01_head.mono _)
      | (with_reducible exact path_In.mono _ _ _)
      | (with_reducible exact path_Parent.mono _ _)
      | (with_reducible exact LeO.refl _)
      | (with_reducible exact LeO.none _)
      | (with_reducible refine LeO.ite ?_ ?_)
      | (with_reducible refine LeO.bind ?_ (fun _ => ?_))
      | exact ih0 _ _ _ _ _
      | exact ih1 _ _ _ _ _
      | exact ih2 _ _ _
      | exact cantonlaw01_head.mono _
      | exact path_In.mono _ _ _
      | exact path_Parent.mono _ _
      | exact LeO.none _
      | refine LeO.ite ?_ ?_
      | refine LeO.bind ?_ (fun _ => ?_)
    · intro y0 y1 y2 y3 y4
      unfold cantonlaw01_PathIn.j1
      repeat' first
      | (with_reducible exact ih0 _ _ _ _ _)
      | (with_reducible exact ih1 _ _ _ _ _)
      | (with_reducible exact ih2 _ _ _)
      | (with_reducible exact cantonlaw01_head.mono _)
      | (with_reducible exact path_In.mono _ _ _)
      | (with_reducible exact path_Parent.mono _ _)
      | (with_reducible exact LeO.refl _)
      | (with_reducible exact LeO.none _)
      | (with_reducible refine LeO.ite ?_ ?_)
      | (with_reducible refine LeO.bind ?_ (fun _ => ?_))
      | exact ih0 _ _ _ _ _
      | exact ih1 _ _ _ _ _
      | exact ih2 _ _ _
      | exact cantonlaw01_head.mono _
      | exact path_In.mono _ _ _
      | exact path_Parent.mono _ _
      | exact LeO.none _
      | refine LeO.ite ?_ ?_
      | refine LeO.bind ?_ (fun _ => ?_)
    · intro y0 y1 y2
      unfold cantonlaw01_PathIn.j2
      repeat' first
      | (with_reducible exact ih0 _ _ _ _ _)
      | (with_reducible exact ih1 _ _ _ _ _)
      | (with_reducible exact ih2 _ _ _)
      | (with_reducible exact cantonlaw01_head.mono _)
      | (with_reducible exact path_In.mono _ _ _)
      | (with_reducible exact path_Parent.mono _ _)
      | (with_reducible exact LeO.refl _)
      | (with_reducible exact LeO.none _)
      | (with_reducible refine LeO.ite ?_ ?_)
      | (with_reducible refine LeO.bind ?_ (fun _ => ?_))
      | exact ih0 _ _ _ _ _
      | exact ih1 _ _ _ _ _
      | exact ih2 _ _ _
      | exact cantonlaw01_head.mono _
      | exact path_In.mono _ _ _
      | exact path_Parent.mono _ _
      | exact LeO.none _
      | refine LeO.ite ?_ ?_
      | refine LeO.bind ?_ (fun _ => ?_)
theorem cantonlaw01_PathIn.mono : ∀ a0 a1 a2 k, LeO (cantonlaw01_PathIn.f k a0 a1 a2) (cantonlaw01_PathIn.f (k + 1) a0 a1 a2) := by
  intro a0 a1 a2 k
  obtain ⟨ih0, ih1, ih2⟩ := cantonlaw01_PathIn.mono_l k
  unfold cantonlaw01_PathIn.f
  repeat' first
      | (with_reducible exact ih0 _ _ _ _ _)
      | (with_reducible exact ih1 _ _ _ _ _)
      | (with_reducible exact ih2 _ _ _)
      | (with_reducible exact cantonlaw01_head.mono _)
      | (with_reducible exact path_In.mono _ _ _)
      | (with_reducible exact path_Parent.mono _ _)
      | (with_reducible exact LeO.refl _)
      | (with_reducible exact LeO.none _)
      | (with_reducible refine LeO.ite ?_ ?_)
      | (with_reducible refine LeO.bind ?_ (fun _ => ?_))
      | exact ih0 _ _ _ _ _
      | exact ih1 _ _ _ _ _
      | exact ih2 _ _ _
      | exact cantonlaw01_head.mono _
      | exact path_In.mono _ _ _
      | exact path_Parent.mono _ _
      | exact LeO.none _
      | refine LeO.ite ?_ ?_
      | refine LeO.bind ?_ (fun _ => ?_)
set_option maxHeartbeats 8000000 in
set_option maxRecDepth 100000 in
theorem cantonlaw01_PathIn.calls (k : Nat) (a0 : ByteArray) (a1 : ByteArray) (a2 : ByteArray) (r : Bool) (w : World) (h : cantonlaw01_PathIn.f k a0 a1 a2 = some r) (hT : Itoa.Tab w) :
    Calls Tryd.prog 5 #[.string a0, .string a1, .string a2] w fun e w' => e = .returned (.bool r) ∧ Below w.heap.size w w' := by
  have HT := Aside0.mk hT
  clear hT
  have HB := Aside0.mk (Below.refl w.heap.size w)
  have H : ((cantonlaw01_head.f k).bind fun t244 => (if (a0.size : Int) > 3000 then (cantonlaw01_PathIn.j0 k a0 a1 a2 t244 true) else (if (a1.size : Int) > 3000 then (cantonlaw01_PathIn.j0 k a0 a1 a2 t244 true) else (cantonlaw01_PathIn.j0 k a0 a1 a2 t244 (decide ((a2.size : Int) > 3000)))))) = some r := h
  clear h
  replace H := Option.bind_eq_some_iff.mp H
  obtain ⟨t244, A40, H⟩ := H
  replace H : (if (a0.size : Int) > 3000 then (cantonlaw01_PathIn.j0 k a0 a1 a2 t244 true) else (if (a1.size : Int) > 3000 then (cantonlaw01_PathIn.j0 k a0 a1 a2 t244 true) else (cantonlaw01_PathIn.j0 k a0 a1 a2 t244 (decide ((a2.size : Int) > 3000))))) = some r := H
  have A4 := Aside0.mk A40
  clear A40
  have HC5 := Aside0.mk H
  clear H
  go_enter Tryd.func5, Tryd.ntmps5
  go_upto_region 2 with (first | ((with_reducible refine gate_callee (f := 9) rfl ?_); refine goesL_ (some 10) rfl rfl Tryd.func9 (by kernel_rfl) rfl #[] rfl (by (try simp only [List.map_toArray, List.map_cons, List.map_nil]); first | done | rfl | (simp only [List.length_drop, List.length_take]; rfl)) ?_; (with_reducible refine (cantonlaw01_head.calls k  t244 _ A4.out (Itoa.tab_step HT.out (by repeat (first | (with_reducible first | exact HB.out | apply below_alloc | apply pw_below_drewN | apply below_drew1) | exact HB.out)))).mono ?_); rintro e w6 ⟨rfl, hb⟩; refine ⟨_, rfl, ?_⟩; have n0_ := Aside0.mk (below_step (by repeat (first | (with_reducible first | exact HB.out | apply below_alloc | apply pw_below_drewN | apply below_drew1) | exact HB.out)) hb); clear HB; have HB := n0_; clear n0_; (try clear hb); (try clear hb2); (try clear hk); (try clear hi)))
  (try simp only [Act.put, List.setIfInBounds_toArray, List.set_cons_zero, List.set_cons_succ])
  go_cut [23] (fun v23 wc => ∃ (kq : Nat) (x23_4 : Bool), v23 = .bool x23_4 ∧ Aside0 (cantonlaw01_PathIn.j0 kq a0 a1 a2 t244 x23_4 = some r) ∧ Aside0 (kq ≤ k) ∧ Aside0 (Below w.heap.size w wc))
  case first =>
    have H := HC5.out
    clear HC5
    by_cases c7 : (a0.size : Int) > 3000
    · rw [if_pos c7] at H
      have c7b0 : decide (3000 < (a0.size : Int)) = true := decide_eq_true c7
      have c7b1 : decide (3000 < a0.size) = true := decide_eq_true (by omega)
      clear c7
      (first | rw [c7b0] | (simp only [i64_w, i32_w]; rw [c7b0]) | skip)
      have H' := Aside0.mk H
      clear H
      go_wp2
      go_meet
      case rel => exact ⟨_, (true), (by first | rfl | (simp; done) | (simp [*]; done)), H', ⟨by first | omega | exact Nat.le_refl _⟩, ⟨by repeat (first | (with_reducible first | exact HB.out | apply below_alloc | apply pw_below_drewN | apply below_drew1) | exact HB.out)⟩⟩
    · rw [if_neg c7] at H
      have c7b0 : decide (3000 < (a0.size : Int)) = false := decide_eq_false c7
      have c7b1 : decide (3000 < a0.size) = false := decide_eq_false (by omega)
      clear c7
      (first | rw [c7b0] | (simp only [i64_w, i32_w]; rw [c7b0]) | skip)
      by_cases c8 : (a1.size : Int) > 3000
      · rw [if_pos c8] at H
        have c8b0 : decide (3000 < (a1.size : Int)) = true := decide_eq_true c8
        have c8b1 : decide (3000 < a1.size) = true := decide_eq_true (by omega)
        clear c8
        have H' := Aside0.mk H
        clear H
        go_wp2
        go_meet
        case rel => exact ⟨_, (true), (by first | rfl | (simp; done) | (simp [*]; done)), H', ⟨by first | omega | exact Nat.le_refl _⟩, ⟨by repeat (first | (with_reducible first | exact HB.out | apply below_alloc | apply pw_below_drewN | apply below_drew1) | exact HB.out)⟩⟩
      · rw [if_neg c8] at H
        have c8b0 : decide (3000 < (a1.size : Int)) = false := decide_eq_false c8
        have c8b1 : decide (3000 < a1.size) = false := decide_eq_false (by omega)
        clear c8
        have H' := Aside0.mk H
        clear H
        go_wp2
        go_meet
        case rel => exact ⟨_, (decide ((a2.size : Int) > 3000)), (by first | rfl | (simp; done) | (simp [*]; done)), H', ⟨by first | omega | exact Nat.le_refl _⟩, ⟨by repeat (first | (with_reducible first | exact HB.out | apply below_alloc | apply pw_below_drewN | apply below_drew1) | exact HB.out)⟩⟩
  case rest =>
    clear HC5
    try clear p2
    try clear c5
    try clear c7
    try clear c7b0
    try clear c7b1
    try clear c8
    try clear c8b0
    try clear c8b1
    obtain ⟨kq, x23_4, rfl, HA, HJ4, HB⟩ := hcut
    cases kq with
    | zero => exact absurd HA.out (by simp [cantonlaw01_PathIn.j0])
    | succ kj4 =>
      have H := HA.out
      clear HA
      simp only [cantonlaw01_PathIn.j0] at H
      by_cases c9 : x23_4 = true
      · subst c9
        have H1 : (some t244) = some r := by rw [if_pos rfl] at H; exact H
        clear H
        have H := H1
        clear H1
        obtain rfl := Option.some.inj H
        go_wp2
        go_ret
        exact ⟨by first | rfl | (simp [errW_none, errW_some] <;> rfl) | (simp [*, errW_none, errW_some] <;> rfl), by repeat (first | (with_reducible first | exact HB.out | apply below_alloc | apply pw_below_drewN | apply below_drew1) | exact HB.out)⟩
      · replace c9 := Bool.eq_false_iff.mpr c9
        subst c9
        have H1 : ((path_In.f kj4 a0 a0).bind fun t245 => ((path_Right.f a0).bind fun t246 => (if (t245 != t246) = true then (cantonlaw01_PathIn.j1 kj4 a0 a1 a2 t244 true) else ((path_In.f kj4 a0 (⟨#[47]⟩ : ByteArray)).bind fun t247 => ((path_Right.f a0).bind fun t248 => (cantonlaw01_PathIn.j1 kj4 a0 a1 a2 t244 (t247 != t248))))))) = some r := by rw [if_neg (show ¬ (false = true) by decide)] at H; exact H
        clear H
        have H := H1
        clear H1
        have HC10 := Aside0.mk H
        clear H
        go_upto_region 4 with (fail)
        go_cut [37] (fun v37 wc => ∃ (kq : Nat) (x37_9 : Bool), v37 = .bool x37_9 ∧ Aside0 (cantonlaw01_PathIn.j1 kq a0 a1 a2 t244 x37_9 = some r) ∧ Aside0 (kq ≤ kj4) ∧ Aside0 (Below w.heap.size w wc))
        case first =>
          have H := HC10.out
          clear HC10
          replace H := Option.bind_eq_some_iff.mp H
          obtain ⟨t245, A110, H⟩ := H
          replace H : ((path_Right.f a0).bind fun t246 => (if (t245 != t246) = true then (cantonlaw01_PathIn.j1 kj4 a0 a1 a2 t244 true) else ((path_In.f kj4 a0 (⟨#[47]⟩ : ByteArray)).bind fun t247 => ((path_Right.f a0).bind fun t248 => (cantonlaw01_PathIn.j1 kj4 a0 a1 a2 t244 (t247 != t248)))))) = some r := H
          have A11 := Aside0.mk A110
          clear A110
          replace H := Option.bind_eq_some_iff.mp H
          obtain ⟨t246, A120, H⟩ := H
          replace H : (if (t245 != t246) = true then (cantonlaw01_PathIn.j1 kj4 a0 a1 a2 t244 true) else ((path_In.f kj4 a0 (⟨#[47]⟩ : ByteArray)).bind fun t247 => ((path_Right.f a0).bind fun t248 => (cantonlaw01_PathIn.j1 kj4 a0 a1 a2 t244 (t247 != t248))))) = some r := H
          have A12 := Aside0.mk A120
          clear A120
          by_cases c13 : (t245 != t246) = true
          · rw [if_pos c13] at H
            have c13b0 : (t245 != t246) = true := c13
            (try (have c13b1 : decide (t245 = t246) = false := by simpa using c13))
            (try (have c13b2 : (t245 == t246) = false := by simpa using c13))
            (try (have c13b3 : ¬ (t245 = t246) := by simpa using c13))
            clear c13
            (first | rw [c13b0] | (simp only [i64_w, i32_w]; rw [c13b0]) | skip)
            have H' := Aside0.mk H
            clear H
            go_wp2_with (first | ((with_reducible refine gate_callee (f := 23) rfl ?_); refine goesL_ (some 27) rfl rfl Tryd.func23 (by kernel_rfl) rfl #[.string a0, .string a0] rfl (by (try simp only [List.map_toArray, List.map_cons, List.map_nil]); first | done | rfl | (simp only [List.length_drop, List.length_take]; rfl)) ?_; (with_reducible refine (path_In.calls kj4 a0 a0 t245 _ A11.out).mono ?_); rintro e w14 ⟨rfl, hb⟩; refine ⟨_, rfl, ?_⟩; have n0_ := Aside0.mk (below_step (by repeat (first | (with_reducible first | exact HB.out | apply below_alloc | apply pw_below_drewN | apply below_drew1) | exact HB.out)) hb); clear HB; have HB := n0_; clear n0_; (try clear hb); (try clear hb2); (try clear hk); (try clear hi)) | ((with_reducible refine gate_callee (f := 14) rfl ?_); refine goesL_ (some 29) rfl rfl Tryd.func14 (by kernel_rfl) rfl #[.string a0] rfl (by (try simp only [List.map_toArray, List.map_cons, List.map_nil]); first | done | rfl | (simp only [List.length_drop, List.length_take]; rfl)) ?_; (with_reducible refine (path_Right.calls a0 t246 _ A12.out).mono ?_); rintro e w15 ⟨rfl, hb⟩; refine ⟨_, rfl, ?_⟩; have n0_ := Aside0.mk (below_step (by repeat (first | (with_reducible first | exact HB.out | apply below_alloc | apply pw_below_drewN | apply below_drew1) | exact HB.out)) hb); clear HB; have HB := n0_; clear n0_; (try clear hb); (try clear hb2); (try clear hk); (try clear hi)))
            go_meet
            case rel => exact ⟨_, (true), (by first | rfl | (simp; done) | (simp [*]; done)), H', ⟨by have := HJ4.out; first | omega | exact Nat.le_refl _⟩, ⟨by repeat (first | (with_reducible first | exact HB.out | apply below_alloc | apply pw_below_drewN | apply below_drew1) | exact HB.out)⟩⟩
          · rw [if_neg c13] at H
            have c13b0 : (t245 != t246) = false := by simpa using c13
            (try (have c13b1 : decide (t245 = t246) = true := by simpa using c13))
            (try (have c13b2 : (t245 == t246) = true := by simpa using c13))
            clear c13
            (first | rw [c13b0] | (simp only [i64_w, i32_w]; rw [c13b0]) | skip)
            replace H := Option.bind_eq_some_iff.mp H
            obtain ⟨t247, A160, H⟩ := H
            replace H : ((path_Right.f a0).bind fun t248 => (cantonlaw01_PathIn.j1 kj4 a0 a1 a2 t244 (t247 != t248))) = some r := H
            have A16 := Aside0.mk A160
            clear A160
            replace H := Option.bind_eq_some_iff.mp H
            obtain ⟨t248, A170, H⟩ := H
            replace H : (cantonlaw01_PathIn.j1 kj4 a0 a1 a2 t244 (t247 != t248)) = some r := H
            have A17 := Aside0.mk A170
            clear A170
            have H' := Aside0.mk H
            clear H
            go_wp2_with (first | ((with_reducible refine gate_callee (f := 23) rfl ?_); refine goesL_ (some 27) rfl rfl Tryd.func23 (by kernel_rfl) rfl #[.string a0, .string a0] rfl (by (try simp only [List.map_toArray, List.map_cons, List.map_nil]); first | done | rfl | (simp only [List.length_drop, List.length_take]; rfl)) ?_; (with_reducible refine (path_In.calls kj4 a0 a0 t245 _ A11.out).mono ?_); rintro e w18 ⟨rfl, hb⟩; refine ⟨_, rfl, ?_⟩; have n0_ := Aside0.mk (below_step (by repeat (first | (with_reducible first | exact HB.out | apply below_alloc | apply pw_below_drewN | apply below_drew1) | exact HB.out)) hb); clear HB; have HB := n0_; clear n0_; (try clear hb); (try clear hb2); (try clear hk); (try clear hi)) | ((with_reducible refine gate_callee (f := 14) rfl ?_); refine goesL_ (some 29) rfl rfl Tryd.func14 (by kernel_rfl) rfl #[.string a0] rfl (by (try simp only [List.map_toArray, List.map_cons, List.map_nil]); first | done | rfl | (simp only [List.length_drop, List.length_take]; rfl)) ?_; (with_reducible refine (path_Right.calls a0 t246 _ A12.out).mono ?_); rintro e w19 ⟨rfl, hb⟩; refine ⟨_, rfl, ?_⟩; have n0_ := Aside0.mk (below_step (by repeat (first | (with_reducible first | exact HB.out | apply below_alloc | apply pw_below_drewN | apply below_drew1) | exact HB.out)) hb); clear HB; have HB := n0_; clear n0_; (try clear hb); (try clear hb2); (try clear hk); (try clear hi)) | (go_at_call 23; (with_reducible refine (path_In.calls kj4 a0 (⟨#[47]⟩ : ByteArray) t247 _ A16.out).mono ?_); rintro e w20 ⟨rfl, hb⟩; have n0_ := Aside0.mk (below_step (by repeat (first | (with_reducible first | exact HB.out | apply below_alloc | apply pw_below_drewN | apply below_drew1) | exact HB.out)) hb); clear HB; have HB := n0_; clear n0_; (try clear hb); (try clear hb2); (try clear hk); (try clear hi)) | (go_at_call 14; (with_reducible refine (path_Right.calls a0 t248 _ A17.out).mono ?_); rintro e w21 ⟨rfl, hb⟩; have n0_ := Aside0.mk (below_step (by repeat (first | (with_reducible first | exact HB.out | apply below_alloc | apply pw_below_drewN | apply below_drew1) | exact HB.out)) hb); clear HB; have HB := n0_; clear n0_; (try clear hb); (try clear hb2); (try clear hk); (try clear hi)))
            go_meet
            case rel => exact ⟨_, ((t247 != t248)), (by first | rfl | (simp; done) | (simp [*]; done)), H', ⟨by have := HJ4.out; first | omega | exact Nat.le_refl _⟩, ⟨by repeat (first | (with_reducible first | exact HB.out | apply below_alloc | apply pw_below_drewN | apply below_drew1) | exact HB.out)⟩⟩
        case rest =>
          clear HC10
          try clear c1
          try clear c2
          try clear p2
          try clear c5
          try clear c7
          try clear c7b0
          try clear c7b1
          try clear c8
          try clear c8b0
          try clear c8b1
          try clear c9
          try clear c13
          try clear c13b0
          try clear c13b1
          try clear c13b2
          try clear c14
          try clear p2
          obtain ⟨kq, x37_9, rfl, HA, HJ9, HB⟩ := hcut
          cases kq with
          | zero => exact absurd HA.out (by simp [cantonlaw01_PathIn.j1])
          | succ kj9 =>
            have H := HA.out
            clear HA
            simp only [cantonlaw01_PathIn.j1] at H
            by_cases c22 : x37_9 = true
            · subst c22
              have H1 : (some false) = some r := by rw [if_pos rfl] at H; exact H
              clear H
              have H := H1
              clear H1
              obtain rfl := Option.some.inj H
              go_wp2
              go_ret
              exact ⟨by first | rfl | (simp [errW_none, errW_some] <;> rfl) | (simp [*, errW_none, errW_some] <;> rfl), by repeat (first | (with_reducible first | exact HB.out | apply below_alloc | apply pw_below_drewN | apply below_drew1) | exact HB.out)⟩
            · replace c22 := Bool.eq_false_iff.mpr c22
              subst c22
              have H1 : ((path_In.f kj9 a0 a1).bind fun t249 => (if t249 = true then ((path_In.f kj9 a1 a2).bind fun t250 => (if t250 = true then ((path_In.f kj9 a0 a2).bind fun t251 => (if t251 = true then ((path_In.f kj9 a0 a1).bind fun t252 => (if t252 = true then ((path_In.f kj9 a1 a0).bind fun t253 => (if t253 = true then (cantonlaw01_PathIn.j2 kj9 a0 t244 (a0.toList != a1.toList)) else (cantonlaw01_PathIn.j2 kj9 a0 t244 false))) else (cantonlaw01_PathIn.j2 kj9 a0 t244 false))) else (cantonlaw01_PathIn.j2 kj9 a0 t244 true))) else ((path_In.f kj9 a0 a1).bind fun t254 => (if t254 = true then ((path_In.f kj9 a1 a0).bind fun t255 => (if t255 = true then (cantonlaw01_PathIn.j2 kj9 a0 t244 (a0.toList != a1.toList)) else (cantonlaw01_PathIn.j2 kj9 a0 t244 false))) else (cantonlaw01_PathIn.j2 kj9 a0 t244 false))))) else ((path_In.f kj9 a0 a1).bind fun t256 => (if t256 = true then ((path_In.f kj9 a1 a0).bind fun t257 => (if t257 = true then (cantonlaw01_PathIn.j2 kj9 a0 t244 (a0.toList != a1.toList)) else (cantonlaw01_PathIn.j2 kj9 a0 t244 false))) else (cantonlaw01_PathIn.j2 kj9 a0 t244 false))))) = some r := by rw [if_neg (show ¬ (false = true) by decide)] at H; exact H
              clear H
              have H := H1
              clear H1
              have HC23 := Aside0.mk H
              clear H
              go_upto_region 6 with (fail)
              go_cut [66] (fun v66 wc => ∃ (kq : Nat) (x66_22 : Bool), v66 = .bool x66_22 ∧ Aside0 (cantonlaw01_PathIn.j2 kq a0 t244 x66_22 = some r) ∧ Aside0 (kq ≤ kj9) ∧ Aside0 (Below w.heap.size w wc))
              case first =>
                have H := HC23.out
                clear HC23
                replace H := Option.bind_eq_some_iff.mp H
                obtain ⟨t249, A240, H⟩ := H
                replace H : (if t249 = true then ((path_In.f kj9 a1 a2).bind fun t250 => (if t250 = true then ((path_In.f kj9 a0 a2).bind fun t251 => (if t251 = true then ((path_In.f kj9 a0 a1).bind fun t252 => (if t252 = true then ((path_In.f kj9 a1 a0).bind fun t253 => (if t253 = true then (cantonlaw01_PathIn.j2 kj9 a0 t244 (a0.toList != a1.toList)) else (cantonlaw01_PathIn.j2 kj9 a0 t244 false))) else (cantonlaw01_PathIn.j2 kj9 a0 t244 false))) else (cantonlaw01_PathIn.j2 kj9 a0 t244 true))) else ((path_In.f kj9 a0 a1).bind fun t254 => (if t254 = true then ((path_In.f kj9 a1 a0).bind fun t255 => (if t255 = true then (cantonlaw01_PathIn.j2 kj9 a0 t244 (a0.toList != a1.toList)) else (cantonlaw01_PathIn.j2 kj9 a0 t244 false))) else (cantonlaw01_PathIn.j2 kj9 a0 t244 false))))) else ((path_In.f kj9 a0 a1).bind fun t256 => (if t256 = true then ((path_In.f kj9 a1 a0).bind fun t257 => (if t257 = true then (cantonlaw01_PathIn.j2 kj9 a0 t244 (a0.toList != a1.toList)) else (cantonlaw01_PathIn.j2 kj9 a0 t244 false))) else (cantonlaw01_PathIn.j2 kj9 a0 t244 false)))) = some r := H
                have A24 := Aside0.mk A240
                clear A240
                by_cases c25 : t249 = true
                · subst c25
                  have H1 : ((path_In.f kj9 a1 a2).bind fun t250 => (if t250 = true then ((path_In.f kj9 a0 a2).bind fun t251 => (if t251 = true then ((path_In.f kj9 a0 a1).bind fun t252 => (if t252 = true then ((path_In.f kj9 a1 a0).bind fun t253 => (if t253 = true then (cantonlaw01_PathIn.j2 kj9 a0 t244 (a0.toList != a1.toList)) else (cantonlaw01_PathIn.j2 kj9 a0 t244 false))) else (cantonlaw01_PathIn.j2 kj9 a0 t244 false))) else (cantonlaw01_PathIn.j2 kj9 a0 t244 true))) else ((path_In.f kj9 a0 a1).bind fun t254 => (if t254 = true then ((path_In.f kj9 a1 a0).bind fun t255 => (if t255 = true then (cantonlaw01_PathIn.j2 kj9 a0 t244 (a0.toList != a1.toList)) else (cantonlaw01_PathIn.j2 kj9 a0 t244 false))) else (cantonlaw01_PathIn.j2 kj9 a0 t244 false))))) = some r := by rw [if_pos rfl] at H; exact H
                  clear H
                  have H := H1
                  clear H1
                  replace H := Option.bind_eq_some_iff.mp H
                  obtain ⟨t250, A260, H⟩ := H
                  replace H : (if t250 = true then ((path_In.f kj9 a0 a2).bind fun t251 => (if t251 = true then ((path_In.f kj9 a0 a1).bind fun t252 => (if t252 = true then ((path_In.f kj9 a1 a0).bind fun t253 => (if t253 = true then (cantonlaw01_PathIn.j2 kj9 a0 t244 (a0.toList != a1.toList)) else (cantonlaw01_PathIn.j2 kj9 a0 t244 false))) else (cantonlaw01_PathIn.j2 kj9 a0 t244 false))) else (cantonlaw01_PathIn.j2 kj9 a0 t244 true))) else ((path_In.f kj9 a0 a1).bind fun t254 => (if t254 = true then ((path_In.f kj9 a1 a0).bind fun t255 => (if t255 = true then (cantonlaw01_PathIn.j2 kj9 a0 t244 (a0.toList != a1.toList)) else (cantonlaw01_PathIn.j2 kj9 a0 t244 false))) else (cantonlaw01_PathIn.j2 kj9 a0 t244 false)))) = some r := H
                  have A26 := Aside0.mk A260
                  clear A260
                  by_cases c27 : t250 = true
                  · subst c27
                    have H1 : ((path_In.f kj9 a0 a2).bind fun t251 => (if t251 = true then ((path_In.f kj9 a0 a1).bind fun t252 => (if t252 = true then ((path_In.f kj9 a1 a0).bind fun t253 => (if t253 = true then (cantonlaw01_PathIn.j2 kj9 a0 t244 (a0.toList != a1.toList)) else (cantonlaw01_PathIn.j2 kj9 a0 t244 false))) else (cantonlaw01_PathIn.j2 kj9 a0 t244 false))) else (cantonlaw01_PathIn.j2 kj9 a0 t244 true))) = some r := by rw [if_pos rfl] at H; exact H
                    clear H
                    have H := H1
                    clear H1
                    replace H := Option.bind_eq_some_iff.mp H
                    obtain ⟨t251, A280, H⟩ := H
                    replace H : (if t251 = true then ((path_In.f kj9 a0 a1).bind fun t252 => (if t252 = true then ((path_In.f kj9 a1 a0).bind fun t253 => (if t253 = true then (cantonlaw01_PathIn.j2 kj9 a0 t244 (a0.toList != a1.toList)) else (cantonlaw01_PathIn.j2 kj9 a0 t244 false))) else (cantonlaw01_PathIn.j2 kj9 a0 t244 false))) else (cantonlaw01_PathIn.j2 kj9 a0 t244 true)) = some r := H
                    have A28 := Aside0.mk A280
                    clear A280
                    by_cases c29 : t251 = true
                    · subst c29
                      have H1 : ((path_In.f kj9 a0 a1).bind fun t252 => (if t252 = true then ((path_In.f kj9 a1 a0).bind fun t253 => (if t253 = true then (cantonlaw01_PathIn.j2 kj9 a0 t244 (a0.toList != a1.toList)) else (cantonlaw01_PathIn.j2 kj9 a0 t244 false))) else (cantonlaw01_PathIn.j2 kj9 a0 t244 false))) = some r := by rw [if_pos rfl] at H; exact H
                      clear H
                      have H := H1
                      clear H1
                      replace H := Option.bind_eq_some_iff.mp H
                      obtain ⟨t252, A300, H⟩ := H
                      replace H : (if t252 = true then ((path_In.f kj9 a1 a0).bind fun t253 => (if t253 = true then (cantonlaw01_PathIn.j2 kj9 a0 t244 (a0.toList != a1.toList)) else (cantonlaw01_PathIn.j2 kj9 a0 t244 false))) else (cantonlaw01_PathIn.j2 kj9 a0 t244 false)) = some r := H
                      have A30 := Aside0.mk A300
                      clear A300
                      by_cases c31 : t252 = true
                      · subst c31
                        have H1 : ((path_In.f kj9 a1 a0).bind fun t253 => (if t253 = true then (cantonlaw01_PathIn.j2 kj9 a0 t244 (a0.toList != a1.toList)) else (cantonlaw01_PathIn.j2 kj9 a0 t244 false))) = some r := by rw [if_pos rfl] at H; exact H
                        clear H
                        have H := H1
                        clear H1
                        replace H := Option.bind_eq_some_iff.mp H
                        obtain ⟨t253, A320, H⟩ := H
                        replace H : (if t253 = true then (cantonlaw01_PathIn.j2 kj9 a0 t244 (a0.toList != a1.toList)) else (cantonlaw01_PathIn.j2 kj9 a0 t244 false)) = some r := H
                        have A32 := Aside0.mk A320
                        clear A320
                        by_cases c33 : t253 = true
                        · subst c33
                          have H1 : (cantonlaw01_PathIn.j2 kj9 a0 t244 (a0.toList != a1.toList)) = some r := by rw [if_pos rfl] at H; exact H
                          clear H
                          have H := H1
                          clear H1
                          have H' := Aside0.mk H
                          clear H
                          go_wp2_with (first | ((with_reducible refine gate_callee (f := 23) rfl ?_); refine goesL_ (some 40) rfl rfl Tryd.func23 (by kernel_rfl) rfl #[.string a0, .string a1] rfl (by (try simp only [List.map_toArray, List.map_cons, List.map_nil]); first | done | rfl | (simp only [List.length_drop, List.length_take]; rfl)) ?_; (with_reducible refine (path_In.calls kj9 a0 a1 true _ A24.out).mono ?_); rintro e w34 ⟨rfl, hb⟩; refine ⟨_, rfl, ?_⟩; have n0_ := Aside0.mk (below_step (by repeat (first | (with_reducible first | exact HB.out | apply below_alloc | apply pw_below_drewN | apply below_drew1) | exact HB.out)) hb); clear HB; have HB := n0_; clear n0_; (try clear hb); (try clear hb2); (try clear hk); (try clear hi)) | (go_at_call 23; (with_reducible refine (path_In.calls kj9 a1 a2 true _ A26.out).mono ?_); rintro e w35 ⟨rfl, hb⟩; have n0_ := Aside0.mk (below_step (by repeat (first | (with_reducible first | exact HB.out | apply below_alloc | apply pw_below_drewN | apply below_drew1) | exact HB.out)) hb); clear HB; have HB := n0_; clear n0_; (try clear hb); (try clear hb2); (try clear hk); (try clear hi)) | (go_at_call 23; (with_reducible refine (path_In.calls kj9 a0 a2 true _ A28.out).mono ?_); rintro e w36 ⟨rfl, hb⟩; have n0_ := Aside0.mk (below_step (by repeat (first | (with_reducible first | exact HB.out | apply below_alloc | apply pw_below_drewN | apply below_drew1) | exact HB.out)) hb); clear HB; have HB := n0_; clear n0_; (try clear hb); (try clear hb2); (try clear hk); (try clear hi)) | (go_at_call 23; (with_reducible refine (path_In.calls kj9 a0 a1 true _ A30.out).mono ?_); rintro e w37 ⟨rfl, hb⟩; have n0_ := Aside0.mk (below_step (by repeat (first | (with_reducible first | exact HB.out | apply below_alloc | apply pw_below_drewN | apply below_drew1) | exact HB.out)) hb); clear HB; have HB := n0_; clear n0_; (try clear hb); (try clear hb2); (try clear hk); (try clear hi)) | (go_at_call 23; (with_reducible refine (path_In.calls kj9 a1 a0 true _ A32.out).mono ?_); rintro e w38 ⟨rfl, hb⟩; have n0_ := Aside0.mk (below_step (by repeat (first | (with_reducible first | exact HB.out | apply below_alloc | apply pw_below_drewN | apply below_drew1) | exact HB.out)) hb); clear HB; have HB := n0_; clear n0_; (try clear hb); (try clear hb2); (try clear hk); (try clear hi)))
                          go_meet
                          case rel => exact ⟨_, ((a0.toList != a1.toList)), (by first | rfl | (simp; done) | (simp [*]; done)), H', ⟨by have := HJ4.out; have := HJ9.out; first | omega | exact Nat.le_refl _⟩, ⟨by repeat (first | (with_reducible first | exact HB.out | apply below_alloc | apply pw_below_drewN | apply below_drew1) | exact HB.out)⟩⟩
                        · replace c33 := Bool.eq_false_iff.mpr c33
                          subst c33
                          have H1 : (cantonlaw01_PathIn.j2 kj9 a0 t244 false) = some r := by rw [if_neg (show ¬ (false = true) by decide)] at H; exact H
                          clear H
                          have H := H1
                          clear H1
                          have H' := Aside0.mk H
                          clear H
                          go_wp2_with (first | ((with_reducible refine gate_callee (f := 23) rfl ?_); refine goesL_ (some 40) rfl rfl Tryd.func23 (by kernel_rfl) rfl #[.string a0, .string a1] rfl (by (try simp only [List.map_toArray, List.map_cons, List.map_nil]); first | done | rfl | (simp only [List.length_drop, List.length_take]; rfl)) ?_; (with_reducible refine (path_In.calls kj9 a0 a1 true _ A24.out).mono ?_); rintro e w39 ⟨rfl, hb⟩; refine ⟨_, rfl, ?_⟩; have n0_ := Aside0.mk (below_step (by repeat (first | (with_reducible first | exact HB.out | apply below_alloc | apply pw_below_drewN | apply below_drew1) | exact HB.out)) hb); clear HB; have HB := n0_; clear n0_; (try clear hb); (try clear hb2); (try clear hk); (try clear hi)) | (go_at_call 23; (with_reducible refine (path_In.calls kj9 a1 a2 true _ A26.out).mono ?_); rintro e w40 ⟨rfl, hb⟩; have n0_ := Aside0.mk (below_step (by repeat (first | (with_reducible first | exact HB.out | apply below_alloc | apply pw_below_drewN | apply below_drew1) | exact HB.out)) hb); clear HB; have HB := n0_; clear n0_; (try clear hb); (try clear hb2); (try clear hk); (try clear hi)) | (go_at_call 23; (with_reducible refine (path_In.calls kj9 a0 a2 true _ A28.out).mono ?_); rintro e w41 ⟨rfl, hb⟩; have n0_ := Aside0.mk (below_step (by repeat (first | (with_reducible first | exact HB.out | apply below_alloc | apply pw_below_drewN | apply below_drew1) | exact HB.out)) hb); clear HB; have HB := n0_; clear n0_; (try clear hb); (try clear hb2); (try clear hk); (try clear hi)) | (go_at_call 23; (with_reducible refine (path_In.calls kj9 a0 a1 true _ A30.out).mono ?_); rintro e w42 ⟨rfl, hb⟩; have n0_ := Aside0.mk (below_step (by repeat (first | (with_reducible first | exact HB.out | apply below_alloc | apply pw_below_drewN | apply below_drew1) | exact HB.out)) hb); clear HB; have HB := n0_; clear n0_; (try clear hb); (try clear hb2); (try clear hk); (try clear hi)) | (go_at_call 23; (with_reducible refine (path_In.calls kj9 a1 a0 false _ A32.out).mono ?_); rintro e w43 ⟨rfl, hb⟩; have n0_ := Aside0.mk (below_step (by repeat (first | (with_reducible first | exact HB.out | apply below_alloc | apply pw_below_drewN | apply below_drew1) | exact HB.out)) hb); clear HB; have HB := n0_; clear n0_; (try clear hb); (try clear hb2); (try clear hk); (try clear hi)))
                          go_meet
                          case rel => exact ⟨_, (false), (by first | rfl | (simp; done) | (simp [*]; done)), H', ⟨by have := HJ4.out; have := HJ9.out; first | omega | exact Nat.le_refl _⟩, ⟨by repeat (first | (with_reducible first | exact HB.out | apply below_alloc | apply pw_below_drewN | apply below_drew1) | exact HB.out)⟩⟩
                      · replace c31 := Bool.eq_false_iff.mpr c31
                        subst c31
                        have H1 : (cantonlaw01_PathIn.j2 kj9 a0 t244 false) = some r := by rw [if_neg (show ¬ (false = true) by decide)] at H; exact H
                        clear H
                        have H := H1
                        clear H1
                        have H' := Aside0.mk H
                        clear H
                        go_wp2_with (first | ((with_reducible refine gate_callee (f := 23) rfl ?_); refine goesL_ (some 40) rfl rfl Tryd.func23 (by kernel_rfl) rfl #[.string a0, .string a1] rfl (by (try simp only [List.map_toArray, List.map_cons, List.map_nil]); first | done | rfl | (simp only [List.length_drop, List.length_take]; rfl)) ?_; (with_reducible refine (path_In.calls kj9 a0 a1 true _ A24.out).mono ?_); rintro e w44 ⟨rfl, hb⟩; refine ⟨_, rfl, ?_⟩; have n0_ := Aside0.mk (below_step (by repeat (first | (with_reducible first | exact HB.out | apply below_alloc | apply pw_below_drewN | apply below_drew1) | exact HB.out)) hb); clear HB; have HB := n0_; clear n0_; (try clear hb); (try clear hb2); (try clear hk); (try clear hi)) | (go_at_call 23; (with_reducible refine (path_In.calls kj9 a1 a2 true _ A26.out).mono ?_); rintro e w45 ⟨rfl, hb⟩; have n0_ := Aside0.mk (below_step (by repeat (first | (with_reducible first | exact HB.out | apply below_alloc | apply pw_below_drewN | apply below_drew1) | exact HB.out)) hb); clear HB; have HB := n0_; clear n0_; (try clear hb); (try clear hb2); (try clear hk); (try clear hi)) | (go_at_call 23; (with_reducible refine (path_In.calls kj9 a0 a2 true _ A28.out).mono ?_); rintro e w46 ⟨rfl, hb⟩; have n0_ := Aside0.mk (below_step (by repeat (first | (with_reducible first | exact HB.out | apply below_alloc | apply pw_below_drewN | apply below_drew1) | exact HB.out)) hb); clear HB; have HB := n0_; clear n0_; (try clear hb); (try clear hb2); (try clear hk); (try clear hi)) | (go_at_call 23; (with_reducible refine (path_In.calls kj9 a0 a1 false _ A30.out).mono ?_); rintro e w47 ⟨rfl, hb⟩; have n0_ := Aside0.mk (below_step (by repeat (first | (with_reducible first | exact HB.out | apply below_alloc | apply pw_below_drewN | apply below_drew1) | exact HB.out)) hb); clear HB; have HB := n0_; clear n0_; (try clear hb); (try clear hb2); (try clear hk); (try clear hi)))
                        go_meet
                        case rel => exact ⟨_, (false), (by first | rfl | (simp; done) | (simp [*]; done)), H', ⟨by have := HJ4.out; have := HJ9.out; first | omega | exact Nat.le_refl _⟩, ⟨by repeat (first | (with_reducible first | exact HB.out | apply below_alloc | apply pw_below_drewN | apply below_drew1) | exact HB.out)⟩⟩
                    · replace c29 := Bool.eq_false_iff.mpr c29
                      subst c29
                      have H1 : (cantonlaw01_PathIn.j2 kj9 a0 t244 true) = some r := by rw [if_neg (show ¬ (false = true) by decide)] at H; exact H
                      clear H
                      have H := H1
                      clear H1
                      have H' := Aside0.mk H
                      clear H
                      go_wp2_with (first | ((with_reducible refine gate_callee (f := 23) rfl ?_); refine goesL_ (some 40) rfl rfl Tryd.func23 (by kernel_rfl) rfl #[.string a0, .string a1] rfl (by (try simp only [List.map_toArray, List.map_cons, List.map_nil]); first | done | rfl | (simp only [List.length_drop, List.length_take]; rfl)) ?_; (with_reducible refine (path_In.calls kj9 a0 a1 true _ A24.out).mono ?_); rintro e w48 ⟨rfl, hb⟩; refine ⟨_, rfl, ?_⟩; have n0_ := Aside0.mk (below_step (by repeat (first | (with_reducible first | exact HB.out | apply below_alloc | apply pw_below_drewN | apply below_drew1) | exact HB.out)) hb); clear HB; have HB := n0_; clear n0_; (try clear hb); (try clear hb2); (try clear hk); (try clear hi)) | (go_at_call 23; (with_reducible refine (path_In.calls kj9 a1 a2 true _ A26.out).mono ?_); rintro e w49 ⟨rfl, hb⟩; have n0_ := Aside0.mk (below_step (by repeat (first | (with_reducible first | exact HB.out | apply below_alloc | apply pw_below_drewN | apply below_drew1) | exact HB.out)) hb); clear HB; have HB := n0_; clear n0_; (try clear hb); (try clear hb2); (try clear hk); (try clear hi)) | (go_at_call 23; (with_reducible refine (path_In.calls kj9 a0 a2 false _ A28.out).mono ?_); rintro e w50 ⟨rfl, hb⟩; have n0_ := Aside0.mk (below_step (by repeat (first | (with_reducible first | exact HB.out | apply below_alloc | apply pw_below_drewN | apply below_drew1) | exact HB.out)) hb); clear HB; have HB := n0_; clear n0_; (try clear hb); (try clear hb2); (try clear hk); (try clear hi)))
                      go_meet
                      case rel => exact ⟨_, (true), (by first | rfl | (simp; done) | (simp [*]; done)), H', ⟨by have := HJ4.out; have := HJ9.out; first | omega | exact Nat.le_refl _⟩, ⟨by repeat (first | (with_reducible first | exact HB.out | apply below_alloc | apply pw_below_drewN | apply below_drew1) | exact HB.out)⟩⟩
                  · replace c27 := Bool.eq_false_iff.mpr c27
                    subst c27
                    have H1 : ((path_In.f kj9 a0 a1).bind fun t254 => (if t254 = true then ((path_In.f kj9 a1 a0).bind fun t255 => (if t255 = true then (cantonlaw01_PathIn.j2 kj9 a0 t244 (a0.toList != a1.toList)) else (cantonlaw01_PathIn.j2 kj9 a0 t244 false))) else (cantonlaw01_PathIn.j2 kj9 a0 t244 false))) = some r := by rw [if_neg (show ¬ (false = true) by decide)] at H; exact H
                    clear H
                    have H := H1
                    clear H1
                    replace H := Option.bind_eq_some_iff.mp H
                    obtain ⟨t254, A510, H⟩ := H
                    replace H : (if t254 = true then ((path_In.f kj9 a1 a0).bind fun t255 => (if t255 = true then (cantonlaw01_PathIn.j2 kj9 a0 t244 (a0.toList != a1.toList)) else (cantonlaw01_PathIn.j2 kj9 a0 t244 false))) else (cantonlaw01_PathIn.j2 kj9 a0 t244 false)) = some r := H
                    have A51 := Aside0.mk A510
                    clear A510
                    by_cases c52 : t254 = true
                    · subst c52
                      have H1 : ((path_In.f kj9 a1 a0).bind fun t255 => (if t255 = true then (cantonlaw01_PathIn.j2 kj9 a0 t244 (a0.toList != a1.toList)) else (cantonlaw01_PathIn.j2 kj9 a0 t244 false))) = some r := by rw [if_pos rfl] at H; exact H
                      clear H
                      have H := H1
                      clear H1
                      replace H := Option.bind_eq_some_iff.mp H
                      obtain ⟨t255, A530, H⟩ := H
                      replace H : (if t255 = true then (cantonlaw01_PathIn.j2 kj9 a0 t244 (a0.toList != a1.toList)) else (cantonlaw01_PathIn.j2 kj9 a0 t244 false)) = some r := H
                      have A53 := Aside0.mk A530
                      clear A530
                      by_cases c54 : t255 = true
                      · subst c54
                        have H1 : (cantonlaw01_PathIn.j2 kj9 a0 t244 (a0.toList != a1.toList)) = some r := by rw [if_pos rfl] at H; exact H
                        clear H
                        have H := H1
                        clear H1
                        have H' := Aside0.mk H
                        clear H
                        go_wp2_with (first | ((with_reducible refine gate_callee (f := 23) rfl ?_); refine goesL_ (some 40) rfl rfl Tryd.func23 (by kernel_rfl) rfl #[.string a0, .string a1] rfl (by (try simp only [List.map_toArray, List.map_cons, List.map_nil]); first | done | rfl | (simp only [List.length_drop, List.length_take]; rfl)) ?_; (with_reducible refine (path_In.calls kj9 a0 a1 true _ A24.out).mono ?_); rintro e w55 ⟨rfl, hb⟩; refine ⟨_, rfl, ?_⟩; have n0_ := Aside0.mk (below_step (by repeat (first | (with_reducible first | exact HB.out | apply below_alloc | apply pw_below_drewN | apply below_drew1) | exact HB.out)) hb); clear HB; have HB := n0_; clear n0_; (try clear hb); (try clear hb2); (try clear hk); (try clear hi)) | (go_at_call 23; (with_reducible refine (path_In.calls kj9 a1 a2 false _ A26.out).mono ?_); rintro e w56 ⟨rfl, hb⟩; have n0_ := Aside0.mk (below_step (by repeat (first | (with_reducible first | exact HB.out | apply below_alloc | apply pw_below_drewN | apply below_drew1) | exact HB.out)) hb); clear HB; have HB := n0_; clear n0_; (try clear hb); (try clear hb2); (try clear hk); (try clear hi)) | (go_at_call 23; (with_reducible refine (path_In.calls kj9 a0 a1 true _ A51.out).mono ?_); rintro e w57 ⟨rfl, hb⟩; have n0_ := Aside0.mk (below_step (by repeat (first | (with_reducible first | exact HB.out | apply below_alloc | apply pw_below_drewN | apply below_drew1) | exact HB.out)) hb); clear HB; have HB := n0_; clear n0_; (try clear hb); (try clear hb2); (try clear hk); (try clear hi)) | (go_at_call 23; (with_reducible refine (path_In.calls kj9 a1 a0 true _ A53.out).mono ?_); rintro e w58 ⟨rfl, hb⟩; have n0_ := Aside0.mk (below_step (by repeat (first | (with_reducible first | exact HB.out | apply below_alloc | apply pw_below_drewN | apply below_drew1) | exact HB.out)) hb); clear HB; have HB := n0_; clear n0_; (try clear hb); (try clear hb2); (try clear hk); (try clear hi)))
                        go_meet
                        case rel => exact ⟨_, ((a0.toList != a1.toList)), (by first | rfl | (simp; done) | (simp [*]; done)), H', ⟨by have := HJ4.out; have := HJ9.out; first | omega | exact Nat.le_refl _⟩, ⟨by repeat (first | (with_reducible first | exact HB.out | apply below_alloc | apply pw_below_drewN | apply below_drew1) | exact HB.out)⟩⟩
                      · replace c54 := Bool.eq_false_iff.mpr c54
                        subst c54
                        have H1 : (cantonlaw01_PathIn.j2 kj9 a0 t244 false) = some r := by rw [if_neg (show ¬ (false = true) by decide)] at H; exact H
                        clear H
                        have H := H1
                        clear H1
                        have H' := Aside0.mk H
                        clear H
                        go_wp2_with (first | ((with_reducible refine gate_callee (f := 23) rfl ?_); refine goesL_ (some 40) rfl rfl Tryd.func23 (by kernel_rfl) rfl #[.string a0, .string a1] rfl (by (try simp only [List.map_toArray, List.map_cons, List.map_nil]); first | done | rfl | (simp only [List.length_drop, List.length_take]; rfl)) ?_; (with_reducible refine (path_In.calls kj9 a0 a1 true _ A24.out).mono ?_); rintro e w59 ⟨rfl, hb⟩; refine ⟨_, rfl, ?_⟩; have n0_ := Aside0.mk (below_step (by repeat (first | (with_reducible first | exact HB.out | apply below_alloc | apply pw_below_drewN | apply below_drew1) | exact HB.out)) hb); clear HB; have HB := n0_; clear n0_; (try clear hb); (try clear hb2); (try clear hk); (try clear hi)) | (go_at_call 23; (with_reducible refine (path_In.calls kj9 a1 a2 false _ A26.out).mono ?_); rintro e w60 ⟨rfl, hb⟩; have n0_ := Aside0.mk (below_step (by repeat (first | (with_reducible first | exact HB.out | apply below_alloc | apply pw_below_drewN | apply below_drew1) | exact HB.out)) hb); clear HB; have HB := n0_; clear n0_; (try clear hb); (try clear hb2); (try clear hk); (try clear hi)) | (go_at_call 23; (with_reducible refine (path_In.calls kj9 a0 a1 true _ A51.out).mono ?_); rintro e w61 ⟨rfl, hb⟩; have n0_ := Aside0.mk (below_step (by repeat (first | (with_reducible first | exact HB.out | apply below_alloc | apply pw_below_drewN | apply below_drew1) | exact HB.out)) hb); clear HB; have HB := n0_; clear n0_; (try clear hb); (try clear hb2); (try clear hk); (try clear hi)) | (go_at_call 23; (with_reducible refine (path_In.calls kj9 a1 a0 false _ A53.out).mono ?_); rintro e w62 ⟨rfl, hb⟩; have n0_ := Aside0.mk (below_step (by repeat (first | (with_reducible first | exact HB.out | apply below_alloc | apply pw_below_drewN | apply below_drew1) | exact HB.out)) hb); clear HB; have HB := n0_; clear n0_; (try clear hb); (try clear hb2); (try clear hk); (try clear hi)))
                        go_meet
                        case rel => exact ⟨_, (false), (by first | rfl | (simp; done) | (simp [*]; done)), H', ⟨by have := HJ4.out; have := HJ9.out; first | omega | exact Nat.le_refl _⟩, ⟨by repeat (first | (with_reducible first | exact HB.out | apply below_alloc | apply pw_below_drewN | apply below_drew1) | exact HB.out)⟩⟩
                    · replace c52 := Bool.eq_false_iff.mpr c52
                      subst c52
                      have H1 : (cantonlaw01_PathIn.j2 kj9 a0 t244 false) = some r := by rw [if_neg (show ¬ (false = true) by decide)] at H; exact H
                      clear H
                      have H := H1
                      clear H1
                      have H' := Aside0.mk H
                      clear H
                      go_wp2_with (first | ((with_reducible refine gate_callee (f := 23) rfl ?_); refine goesL_ (some 40) rfl rfl Tryd.func23 (by kernel_rfl) rfl #[.string a0, .string a1] rfl (by (try simp only [List.map_toArray, List.map_cons, List.map_nil]); first | done | rfl | (simp only [List.length_drop, List.length_take]; rfl)) ?_; (with_reducible refine (path_In.calls kj9 a0 a1 true _ A24.out).mono ?_); rintro e w63 ⟨rfl, hb⟩; refine ⟨_, rfl, ?_⟩; have n0_ := Aside0.mk (below_step (by repeat (first | (with_reducible first | exact HB.out | apply below_alloc | apply pw_below_drewN | apply below_drew1) | exact HB.out)) hb); clear HB; have HB := n0_; clear n0_; (try clear hb); (try clear hb2); (try clear hk); (try clear hi)) | (go_at_call 23; (with_reducible refine (path_In.calls kj9 a1 a2 false _ A26.out).mono ?_); rintro e w64 ⟨rfl, hb⟩; have n0_ := Aside0.mk (below_step (by repeat (first | (with_reducible first | exact HB.out | apply below_alloc | apply pw_below_drewN | apply below_drew1) | exact HB.out)) hb); clear HB; have HB := n0_; clear n0_; (try clear hb); (try clear hb2); (try clear hk); (try clear hi)) | (go_at_call 23; (with_reducible refine (path_In.calls kj9 a0 a1 false _ A51.out).mono ?_); rintro e w65 ⟨rfl, hb⟩; have n0_ := Aside0.mk (below_step (by repeat (first | (with_reducible first | exact HB.out | apply below_alloc | apply pw_below_drewN | apply below_drew1) | exact HB.out)) hb); clear HB; have HB := n0_; clear n0_; (try clear hb); (try clear hb2); (try clear hk); (try clear hi)))
                      go_meet
                      case rel => exact ⟨_, (false), (by first | rfl | (simp; done) | (simp [*]; done)), H', ⟨by have := HJ4.out; have := HJ9.out; first | omega | exact Nat.le_refl _⟩, ⟨by repeat (first | (with_reducible first | exact HB.out | apply below_alloc | apply pw_below_drewN | apply below_drew1) | exact HB.out)⟩⟩
                · replace c25 := Bool.eq_false_iff.mpr c25
                  subst c25
                  have H1 : ((path_In.f kj9 a0 a1).bind fun t256 => (if t256 = true then ((path_In.f kj9 a1 a0).bind fun t257 => (if t257 = true then (cantonlaw01_PathIn.j2 kj9 a0 t244 (a0.toList != a1.toList)) else (cantonlaw01_PathIn.j2 kj9 a0 t244 false))) else (cantonlaw01_PathIn.j2 kj9 a0 t244 false))) = some r := by rw [if_neg (show ¬ (false = true) by decide)] at H; exact H
                  clear H
                  have H := H1
                  clear H1
                  replace H := Option.bind_eq_some_iff.mp H
                  obtain ⟨t256, A660, H⟩ := H
                  replace H : (if t256 = true then ((path_In.f kj9 a1 a0).bind fun t257 => (if t257 = true then (cantonlaw01_PathIn.j2 kj9 a0 t244 (a0.toList != a1.toList)) else (cantonlaw01_PathIn.j2 kj9 a0 t244 false))) else (cantonlaw01_PathIn.j2 kj9 a0 t244 false)) = some r := H
                  have A66 := Aside0.mk A660
                  clear A660
                  by_cases c67 : t256 = true
                  · subst c67
                    have H1 : ((path_In.f kj9 a1 a0).bind fun t257 => (if t257 = true then (cantonlaw01_PathIn.j2 kj9 a0 t244 (a0.toList != a1.toList)) else (cantonlaw01_PathIn.j2 kj9 a0 t244 false))) = some r := by rw [if_pos rfl] at H; exact H
                    clear H
                    have H := H1
                    clear H1
                    replace H := Option.bind_eq_some_iff.mp H
                    obtain ⟨t257, A680, H⟩ := H
                    replace H : (if t257 = true then (cantonlaw01_PathIn.j2 kj9 a0 t244 (a0.toList != a1.toList)) else (cantonlaw01_PathIn.j2 kj9 a0 t244 false)) = some r := H
                    have A68 := Aside0.mk A680
                    clear A680
                    by_cases c69 : t257 = true
                    · subst c69
                      have H1 : (cantonlaw01_PathIn.j2 kj9 a0 t244 (a0.toList != a1.toList)) = some r := by rw [if_pos rfl] at H; exact H
                      clear H
                      have H := H1
                      clear H1
                      have H' := Aside0.mk H
                      clear H
                      go_wp2_with (first | ((with_reducible refine gate_callee (f := 23) rfl ?_); refine goesL_ (some 40) rfl rfl Tryd.func23 (by kernel_rfl) rfl #[.string a0, .string a1] rfl (by (try simp only [List.map_toArray, List.map_cons, List.map_nil]); first | done | rfl | (simp only [List.length_drop, List.length_take]; rfl)) ?_; (with_reducible refine (path_In.calls kj9 a0 a1 false _ A24.out).mono ?_); rintro e w70 ⟨rfl, hb⟩; refine ⟨_, rfl, ?_⟩; have n0_ := Aside0.mk (below_step (by repeat (first | (with_reducible first | exact HB.out | apply below_alloc | apply pw_below_drewN | apply below_drew1) | exact HB.out)) hb); clear HB; have HB := n0_; clear n0_; (try clear hb); (try clear hb2); (try clear hk); (try clear hi)) | (go_at_call 23; (with_reducible refine (path_In.calls kj9 a0 a1 true _ A66.out).mono ?_); rintro e w71 ⟨rfl, hb⟩; have n0_ := Aside0.mk (below_step (by repeat (first | (with_reducible first | exact HB.out | apply below_alloc | apply pw_below_drewN | apply below_drew1) | exact HB.out)) hb); clear HB; have HB := n0_; clear n0_; (try clear hb); (try clear hb2); (try clear hk); (try clear hi)) | (go_at_call 23; (with_reducible refine (path_In.calls kj9 a1 a0 true _ A68.out).mono ?_); rintro e w72 ⟨rfl, hb⟩; have n0_ := Aside0.mk (below_step (by repeat (first | (with_reducible first | exact HB.out | apply below_alloc | apply pw_below_drewN | apply below_drew1) | exact HB.out)) hb); clear HB; have HB := n0_; clear n0_; (try clear hb); (try clear hb2); (try clear hk); (try clear hi)))
                      go_meet
                      case rel => exact ⟨_, ((a0.toList != a1.toList)), (by first | rfl | (simp; done) | (simp [*]; done)), H', ⟨by have := HJ4.out; have := HJ9.out; first | omega | exact Nat.le_refl _⟩, ⟨by repeat (first | (with_reducible first | exact HB.out | apply below_alloc | apply pw_below_drewN | apply below_drew1) | exact HB.out)⟩⟩
                    · replace c69 := Bool.eq_false_iff.mpr c69
                      subst c69
                      have H1 : (cantonlaw01_PathIn.j2 kj9 a0 t244 false) = some r := by rw [if_neg (show ¬ (false = true) by decide)] at H; exact H
                      clear H
                      have H := H1
                      clear H1
                      have H' := Aside0.mk H
                      clear H
                      go_wp2_with (first | ((with_reducible refine gate_callee (f := 23) rfl ?_); refine goesL_ (some 40) rfl rfl Tryd.func23 (by kernel_rfl) rfl #[.string a0, .string a1] rfl (by (try simp only [List.map_toArray, List.map_cons, List.map_nil]); first | done | rfl | (simp only [List.length_drop, List.length_take]; rfl)) ?_; (with_reducible refine (path_In.calls kj9 a0 a1 false _ A24.out).mono ?_); rintro e w73 ⟨rfl, hb⟩; refine ⟨_, rfl, ?_⟩; have n0_ := Aside0.mk (below_step (by repeat (first | (with_reducible first | exact HB.out | apply below_alloc | apply pw_below_drewN | apply below_drew1) | exact HB.out)) hb); clear HB; have HB := n0_; clear n0_; (try clear hb); (try clear hb2); (try clear hk); (try clear hi)) | (go_at_call 23; (with_reducible refine (path_In.calls kj9 a0 a1 true _ A66.out).mono ?_); rintro e w74 ⟨rfl, hb⟩; have n0_ := Aside0.mk (below_step (by repeat (first | (with_reducible first | exact HB.out | apply below_alloc | apply pw_below_drewN | apply below_drew1) | exact HB.out)) hb); clear HB; have HB := n0_; clear n0_; (try clear hb); (try clear hb2); (try clear hk); (try clear hi)) | (go_at_call 23; (with_reducible refine (path_In.calls kj9 a1 a0 false _ A68.out).mono ?_); rintro e w75 ⟨rfl, hb⟩; have n0_ := Aside0.mk (below_step (by repeat (first | (with_reducible first | exact HB.out | apply below_alloc | apply pw_below_drewN | apply below_drew1) | exact HB.out)) hb); clear HB; have HB := n0_; clear n0_; (try clear hb); (try clear hb2); (try clear hk); (try clear hi)))
                      go_meet
                      case rel => exact ⟨_, (false), (by first | rfl | (simp; done) | (simp [*]; done)), H', ⟨by have := HJ4.out; have := HJ9.out; first | omega | exact Nat.le_refl _⟩, ⟨by repeat (first | (with_reducible first | exact HB.out | apply below_alloc | apply pw_below_drewN | apply below_drew1) | exact HB.out)⟩⟩
                  · replace c67 := Bool.eq_false_iff.mpr c67
                    subst c67
                    have H1 : (cantonlaw01_PathIn.j2 kj9 a0 t244 false) = some r := by rw [if_neg (show ¬ (false = true) by decide)] at H; exact H
                    clear H
                    have H := H1
                    clear H1
                    have H' := Aside0.mk H
                    clear H
                    go_wp2_with (first | ((with_reducible refine gate_callee (f := 23) rfl ?_); refine goesL_ (some 40) rfl rfl Tryd.func23 (by kernel_rfl) rfl #[.string a0, .string a1] rfl (by (try simp only [List.map_toArray, List.map_cons, List.map_nil]); first | done | rfl | (simp only [List.length_drop, List.length_take]; rfl)) ?_; (with_reducible refine (path_In.calls kj9 a0 a1 false _ A24.out).mono ?_); rintro e w76 ⟨rfl, hb⟩; refine ⟨_, rfl, ?_⟩; have n0_ := Aside0.mk (below_step (by repeat (first | (with_reducible first | exact HB.out | apply below_alloc | apply pw_below_drewN | apply below_drew1) | exact HB.out)) hb); clear HB; have HB := n0_; clear n0_; (try clear hb); (try clear hb2); (try clear hk); (try clear hi)) | (go_at_call 23; (with_reducible refine (path_In.calls kj9 a0 a1 false _ A66.out).mono ?_); rintro e w77 ⟨rfl, hb⟩; have n0_ := Aside0.mk (below_step (by repeat (first | (with_reducible first | exact HB.out | apply below_alloc | apply pw_below_drewN | apply below_drew1) | exact HB.out)) hb); clear HB; have HB := n0_; clear n0_; (try clear hb); (try clear hb2); (try clear hk); (try clear hi)))
                    go_meet
                    case rel => exact ⟨_, (false), (by first | rfl | (simp; done) | (simp [*]; done)), H', ⟨by have := HJ4.out; have := HJ9.out; first | omega | exact Nat.le_refl _⟩, ⟨by repeat (first | (with_reducible first | exact HB.out | apply below_alloc | apply pw_below_drewN | apply below_drew1) | exact HB.out)⟩⟩
              case rest =>
                clear HC23
                try clear c1
                try clear c2
                try clear p2
                try clear c3
                try clear c5
                try clear c6
                try clear c7
                try clear c7b0
                try clear c7b1
                try clear c8
                try clear c8b0
                try clear c8b1
                try clear c9
                try clear c13
                try clear c13b0
                try clear c13b1
                try clear c13b2
                try clear c14
                try clear c22
                try clear c23
                try clear c25
                try clear c27
                try clear c29
                try clear c31
                try clear c33
                try clear c52
                try clear c54
                try clear c67
                try clear c69
                try clear p2
                obtain ⟨kq, x66_22, rfl, HA, HJ22, HB⟩ := hcut
                cases kq with
                | zero => exact absurd HA.out (by simp [cantonlaw01_PathIn.j2])
                | succ kj22 =>
                  have H := HA.out
                  clear HA
                  simp only [cantonlaw01_PathIn.j2] at H
                  by_cases c78 : x66_22 = true
                  · subst c78
                    have H1 : (some false) = some r := by rw [if_pos rfl] at H; exact H
                    clear H
                    have H := H1
                    clear H1
                    obtain rfl := Option.some.inj H
                    go_wp2
                    go_ret
                    exact ⟨by first | rfl | (simp [errW_none, errW_some] <;> rfl) | (simp [*, errW_none, errW_some] <;> rfl), by repeat (first | (with_reducible first | exact HB.out | apply below_alloc | apply pw_below_drewN | apply below_drew1) | exact HB.out)⟩
                  · replace c78 := Bool.eq_false_iff.mpr c78
                    subst c78
                    have H1 : ((path_Parent.f kj22 a0).bind fun bt258 => (if t244 = true then (if bt258.2 = true then ((path_In.f kj22 a0 bt258.1).bind fun t260 => (if t260 = true then ((path_In.f kj22 bt258.1 a0).bind fun t261 => (some (!t261))) else (some false))) else (some true)) else (some false))) = some r := by rw [if_neg (show ¬ (false = true) by decide)] at H; exact H
                    clear H
                    have H := H1
                    clear H1
                    replace H := Option.bind_eq_some_iff.mp H
                    obtain ⟨⟨t258, t259⟩, A790, H⟩ := H
                    replace H : (if t244 = true then (if t259 = true then ((path_In.f kj22 a0 t258).bind fun t260 => (if t260 = true then ((path_In.f kj22 t258 a0).bind fun t261 => (some (!t261))) else (some false))) else (some true)) else (some false)) = some r := H
                    have A79 := Aside0.mk A790
                    clear A790
                    by_cases c80 : t244 = true
                    · subst c80
                      have H1 : (if t259 = true then ((path_In.f kj22 a0 t258).bind fun t260 => (if t260 = true then ((path_In.f kj22 t258 a0).bind fun t261 => (some (!t261))) else (some false))) else (some true)) = some r := by rw [if_pos rfl] at H; exact H
                      clear H
                      have H := H1
                      clear H1
                      by_cases c81 : t259 = true
                      · subst c81
                        have H1 : ((path_In.f kj22 a0 t258).bind fun t260 => (if t260 = true then ((path_In.f kj22 t258 a0).bind fun t261 => (some (!t261))) else (some false))) = some r := by rw [if_pos rfl] at H; exact H
                        clear H
                        have H := H1
                        clear H1
                        replace H := Option.bind_eq_some_iff.mp H
                        obtain ⟨t260, A820, H⟩ := H
                        replace H : (if t260 = true then ((path_In.f kj22 t258 a0).bind fun t261 => (some (!t261))) else (some false)) = some r := H
                        have A82 := Aside0.mk A820
                        clear A820
                        by_cases c83 : t260 = true
                        · subst c83
                          have H1 : ((path_In.f kj22 t258 a0).bind fun t261 => (some (!t261))) = some r := by rw [if_pos rfl] at H; exact H
                          clear H
                          have H := H1
                          clear H1
                          replace H := Option.bind_eq_some_iff.mp H
                          obtain ⟨t261, A840, H⟩ := H
                          replace H : (some (!t261)) = some r := H
                          have A84 := Aside0.mk A840
                          clear A840
                          obtain rfl := Option.some.inj H
                          go_wp2_with (first | ((with_reducible refine gate_callee (f := 12) rfl ?_); refine goesL_ (some 69) rfl rfl Tryd.func12 (by kernel_rfl) rfl #[.string a0] rfl (by (try simp only [List.map_toArray, List.map_cons, List.map_nil]); first | done | rfl | (simp only [List.length_drop, List.length_take]; rfl)) ?_; (with_reducible refine (path_Parent.calls kj22 a0 t258 true _ A79.out).mono ?_); rintro e w85 ⟨rfl, hb⟩; refine ⟨_, rfl, ?_⟩; have n0_ := Aside0.mk (below_step (by repeat (first | (with_reducible first | exact HB.out | apply below_alloc | apply pw_below_drewN | apply below_drew1) | exact HB.out)) hb); clear HB; have HB := n0_; clear n0_; (try clear hb); (try clear hb2); (try clear hk); (try clear hi)) | (go_at_call 23; (with_reducible refine (path_In.calls kj22 a0 t258 true _ A82.out).mono ?_); rintro e w86 ⟨rfl, hb⟩; have n0_ := Aside0.mk (below_step (by repeat (first | (with_reducible first | exact HB.out | apply below_alloc | apply pw_below_drewN | apply below_drew1) | exact HB.out)) hb); clear HB; have HB := n0_; clear n0_; (try clear hb); (try clear hb2); (try clear hk); (try clear hi)) | (go_at_call 23; (with_reducible refine (path_In.calls kj22 t258 a0 t261 _ A84.out).mono ?_); rintro e w87 ⟨rfl, hb⟩; have n0_ := Aside0.mk (below_step (by repeat (first | (with_reducible first | exact HB.out | apply below_alloc | apply pw_below_drewN | apply below_drew1) | exact HB.out)) hb); clear HB; have HB := n0_; clear n0_; (try clear hb); (try clear hb2); (try clear hk); (try clear hi)))
                          go_ret
                          exact ⟨by first | rfl | (simp [errW_none, errW_some] <;> rfl) | (simp [*, errW_none, errW_some] <;> rfl), by repeat (first | (with_reducible first | exact HB.out | apply below_alloc | apply pw_below_drewN | apply below_drew1) | exact HB.out)⟩
                        · replace c83 := Bool.eq_false_iff.mpr c83
                          subst c83
                          have H1 : (some false) = some r := by rw [if_neg (show ¬ (false = true) by decide)] at H; exact H
                          clear H
                          have H := H1
                          clear H1
                          obtain rfl := Option.some.inj H
                          go_wp2_with (first | ((with_reducible refine gate_callee (f := 12) rfl ?_); refine goesL_ (some 69) rfl rfl Tryd.func12 (by kernel_rfl) rfl #[.string a0] rfl (by (try simp only [List.map_toArray, List.map_cons, List.map_nil]); first | done | rfl | (simp only [List.length_drop, List.length_take]; rfl)) ?_; (with_reducible refine (path_Parent.calls kj22 a0 t258 true _ A79.out).mono ?_); rintro e w88 ⟨rfl, hb⟩; refine ⟨_, rfl, ?_⟩; have n0_ := Aside0.mk (below_step (by repeat (first | (with_reducible first | exact HB.out | apply below_alloc | apply pw_below_drewN | apply below_drew1) | exact HB.out)) hb); clear HB; have HB := n0_; clear n0_; (try clear hb); (try clear hb2); (try clear hk); (try clear hi)) | (go_at_call 23; (with_reducible refine (path_In.calls kj22 a0 t258 false _ A82.out).mono ?_); rintro e w89 ⟨rfl, hb⟩; have n0_ := Aside0.mk (below_step (by repeat (first | (with_reducible first | exact HB.out | apply below_alloc | apply pw_below_drewN | apply below_drew1) | exact HB.out)) hb); clear HB; have HB := n0_; clear n0_; (try clear hb); (try clear hb2); (try clear hk); (try clear hi)))
                          go_ret
                          exact ⟨by first | rfl | (simp [errW_none, errW_some] <;> rfl) | (simp [*, errW_none, errW_some] <;> rfl), by repeat (first | (with_reducible first | exact HB.out | apply below_alloc | apply pw_below_drewN | apply below_drew1) | exact HB.out)⟩
                      · replace c81 := Bool.eq_false_iff.mpr c81
                        subst c81
                        have H1 : (some true) = some r := by rw [if_neg (show ¬ (false = true) by decide)] at H; exact H
                        clear H
                        have H := H1
                        clear H1
                        obtain rfl := Option.some.inj H
                        go_wp2_with (first | ((with_reducible refine gate_callee (f := 12) rfl ?_); refine goesL_ (some 69) rfl rfl Tryd.func12 (by kernel_rfl) rfl #[.string a0] rfl (by (try simp only [List.map_toArray, List.map_cons, List.map_nil]); first | done | rfl | (simp only [List.length_drop, List.length_take]; rfl)) ?_; (with_reducible refine (path_Parent.calls kj22 a0 t258 false _ A79.out).mono ?_); rintro e w90 ⟨rfl, hb⟩; refine ⟨_, rfl, ?_⟩; have n0_ := Aside0.mk (below_step (by repeat (first | (with_reducible first | exact HB.out | apply below_alloc | apply pw_below_drewN | apply below_drew1) | exact HB.out)) hb); clear HB; have HB := n0_; clear n0_; (try clear hb); (try clear hb2); (try clear hk); (try clear hi)))
                        go_ret
                        exact ⟨by first | rfl | (simp [errW_none, errW_some] <;> rfl) | (simp [*, errW_none, errW_some] <;> rfl), by repeat (first | (with_reducible first | exact HB.out | apply below_alloc | apply pw_below_drewN | apply below_drew1) | exact HB.out)⟩
                    · replace c80 := Bool.eq_false_iff.mpr c80
                      subst c80
                      have H1 : (some false) = some r := by rw [if_neg (show ¬ (false = true) by decide)] at H; exact H
                      clear H
                      have H := H1
                      clear H1
                      obtain rfl := Option.some.inj H
                      go_wp2_with (first | ((with_reducible refine gate_callee (f := 12) rfl ?_); refine goesL_ (some 69) rfl rfl Tryd.func12 (by kernel_rfl) rfl #[.string a0] rfl (by (try simp only [List.map_toArray, List.map_cons, List.map_nil]); first | done | rfl | (simp only [List.length_drop, List.length_take]; rfl)) ?_; (with_reducible refine (path_Parent.calls kj22 a0 t258 t259 _ A79.out).mono ?_); rintro e w91 ⟨rfl, hb⟩; refine ⟨_, rfl, ?_⟩; have n0_ := Aside0.mk (below_step (by repeat (first | (with_reducible first | exact HB.out | apply below_alloc | apply pw_below_drewN | apply below_drew1) | exact HB.out)) hb); clear HB; have HB := n0_; clear n0_; (try clear hb); (try clear hb2); (try clear hk); (try clear hi)))
                      go_ret
                      exact ⟨by first | rfl | (simp [errW_none, errW_some] <;> rfl) | (simp [*, errW_none, errW_some] <;> rfl), by repeat (first | (with_reducible first | exact HB.out | apply below_alloc | apply pw_below_drewN | apply below_drew1) | exact HB.out)⟩

/-- THE ONE PURE STATEMENT of cantonlaw01_PathIn: yours. -/
def cantonlaw01_PathIn.Pure : Prop := ∀ (a0 : ByteArray) (a1 : ByteArray) (a2 : ByteArray), a0.size ≤ 140737488351232 → a1.size ≤ 140737488351232 → a2.size ≤ 140737488351232 → ∃ k, cantonlaw01_PathIn.f k a0 a1 a2 = some true
theorem cantonlaw01_PathIn.walk (P : cantonlaw01_PathIn.Pure) (a0 : ByteArray) (a1 : ByteArray) (a2 : ByteArray) (w : World) (w0 : a0.size ≤ 140737488351232) (w1 : a1.size ≤ 140737488351232) (w2 : a2.size ≤ 140737488351232) (hT : Itoa.Tab w) :
    Calls Tryd.prog 5 #[.string a0, .string a1, .string a2] w fun e w' => e = .returned (.bool true) ∧ Below w.heap.size w w' := by
  obtain ⟨k, h⟩ := P a0 a1 a2 w0 w1 w2
  refine (cantonlaw01_PathIn.calls k a0 a1 a2 true w h hT).mono ?_
  rintro e w' ⟨rfl, hd⟩
  exact ⟨rfl, hd⟩

/-! ### cantonlaw01_PathNumbers: function 6 -/
def cantonlaw01_PathNumbers.f (k : Nat) (a0 : ByteArray) (a1 : Int) (a2 : Int) : Option (Bool) := (cantonlaw01_head.f k).bind fun t262 => (if (a0.size : Int) > 100 then (some t262) else ((path_Numbered.f k a0 (wrap64 (Int.tmod a1 10000))).bind fun bt263 => ((path_Numbered.f k a0 (wrap64 (Int.tmod a2 10000))).bind fun bt265 => (if (bt263.2 != bt265.2) = true then (if t262 = true then (if (bt263.2 == bt265.2) = true then (some (bt263.1.toList == ([] : List UInt8))) else (some false)) else (some false)) else (if bt263.2 = true then (if t262 = true then (if (bt263.1.size : Int) = (wrap64 ((a0.size : Int) + 4)) then (if ((Op.bytesLess bt263.1.toList bt265.1.toList) == (decide ((Int.tmod a1 10000) < (Int.tmod a2 10000)))) = true then (if ((bt263.1.toList == bt265.1.toList) == ((Int.tmod a1 10000) == (Int.tmod a2 10000))) = true then (if 0 ≤ (a0.size : Int) then (if (a0.size : Int) ≤ (bt263.1.size : Int) then (some ((bt263.1.extract 0 ((a0.size : Int) : Int).toNat).toList == a0.toList)) else (none)) else (none)) else (some false)) else (some false)) else (some false)) else (some false)) else (if t262 = true then (if (bt263.2 == bt265.2) = true then (some (bt263.1.toList == ([] : List UInt8))) else (some false)) else (some false)))))))
theorem cantonlaw01_PathNumbers.mono : ∀ a0 a1 a2 k, LeO (cantonlaw01_PathNumbers.f k a0 a1 a2) (cantonlaw01_PathNumbers.f (k + 1) a0 a1 a2) := by
  intro a0 a1 a2 k
  unfold cantonlaw01_PathNumbers.f
  repeat' first
      | (with_reducible exact cantonlaw01_head.mono _)
      | (with_reducible exact path_Numbered.mono _ _ _)
      | (with_reducible exact LeO.refl _)
      | (with_reducible exact LeO.none _)
      | (with_reducible refine LeO.ite ?_ ?_)
      | (with_reducible refine LeO.bind ?_ (fun _ => ?_))
      | exact cantonlaw01_head.mono _
      | exact path_Numbered.mono _ _ _
      | exact LeO.none _
      | refine LeO.ite ?_ ?_
      | refine LeO.bind ?_ (fun _ => ?_)
set_option maxHeartbeats 8000000 in
set_option maxRecDepth 100000 in
theorem cantonlaw01_PathNumbers.calls (k : Nat) (a0 : ByteArray) (a1 : Int) (a2 : Int) (r : Bool) (w : World) (h : cantonlaw01_PathNumbers.f k a0 a1 a2 = some r) (hT : Itoa.Tab w) :
    Calls Tryd.prog 6 #[.string a0, .int .u16 a1, .int .u16 a2] w fun e w' => e = .returned (.bool r) ∧ Below w.heap.size w w' := by
  have HT := Aside0.mk hT
  clear hT
  have HB := Aside0.mk (Below.refl w.heap.size w)
  have H : ((cantonlaw01_head.f k).bind fun t262 => (if (a0.size : Int) > 100 then (some t262) else ((path_Numbered.f k a0 (wrap64 (Int.tmod a1 10000))).bind fun bt263 => ((path_Numbered.f k a0 (wrap64 (Int.tmod a2 10000))).bind fun bt265 => (if (bt263.2 != bt265.2) = true then (if t262 = true then (if (bt263.2 == bt265.2) = true then (some (bt263.1.toList == ([] : List UInt8))) else (some false)) else (some false)) else (if bt263.2 = true then (if t262 = true then (if (bt263.1.size : Int) = (wrap64 ((a0.size : Int) + 4)) then (if ((Op.bytesLess bt263.1.toList bt265.1.toList) == (decide ((Int.tmod a1 10000) < (Int.tmod a2 10000)))) = true then (if ((bt263.1.toList == bt265.1.toList) == ((Int.tmod a1 10000) == (Int.tmod a2 10000))) = true then (if 0 ≤ (a0.size : Int) then (if (a0.size : Int) ≤ (bt263.1.size : Int) then (some ((bt263.1.extract 0 ((a0.size : Int) : Int).toNat).toList == a0.toList)) else (none)) else (none)) else (some false)) else (some false)) else (some false)) else (some false)) else (if t262 = true then (if (bt263.2 == bt265.2) = true then (some (bt263.1.toList == ([] : List UInt8))) else (some false)) else (some false)))))))) = some r := h
  clear h
  replace H := Option.bind_eq_some_iff.mp H
  obtain ⟨t262, A40, H⟩ := H
  replace H : (if (a0.size : Int) > 100 then (some t262) else ((path_Numbered.f k a0 (wrap64 (Int.tmod a1 10000))).bind fun bt263 => ((path_Numbered.f k a0 (wrap64 (Int.tmod a2 10000))).bind fun bt265 => (if (bt263.2 != bt265.2) = true then (if t262 = true then (if (bt263.2 == bt265.2) = true then (some (bt263.1.toList == ([] : List UInt8))) else (some false)) else (some false)) else (if bt263.2 = true then (if t262 = true then (if (bt263.1.size : Int) = (wrap64 ((a0.size : Int) + 4)) then (if ((Op.bytesLess bt263.1.toList bt265.1.toList) == (decide ((Int.tmod a1 10000) < (Int.tmod a2 10000)))) = true then (if ((bt263.1.toList == bt265.1.toList) == ((Int.tmod a1 10000) == (Int.tmod a2 10000))) = true then (if 0 ≤ (a0.size : Int) then (if (a0.size : Int) ≤ (bt263.1.size : Int) then (some ((bt263.1.extract 0 ((a0.size : Int) : Int).toNat).toList == a0.toList)) else (none)) else (none)) else (some false)) else (some false)) else (some false)) else (some false)) else (if t262 = true then (if (bt263.2 == bt265.2) = true then (some (bt263.1.toList == ([] : List UInt8))) else (some false)) else (some false))))))) = some r := H
  have A4 := Aside0.mk A40
  clear A40
  by_cases c5 : (a0.size : Int) > 100
  · rw [if_pos c5] at H
    have c5b0 : decide (100 < (a0.size : Int)) = true := decide_eq_true c5
    have c5b1 : decide (100 < a0.size) = true := decide_eq_true (by omega)
    clear c5
    obtain rfl := Option.some.inj H
    go_enter Tryd.func6, Tryd.ntmps6
    go_wp2_with (first | ((with_reducible refine gate_callee (f := 9) rfl ?_); refine goesL_ (some 12) rfl rfl Tryd.func9 (by kernel_rfl) rfl #[] rfl (by (try simp only [List.map_toArray, List.map_cons, List.map_nil]); first | done | rfl | (simp only [List.length_drop, List.length_take]; rfl)) ?_; (with_reducible refine (cantonlaw01_head.calls k  t262 _ A4.out (Itoa.tab_step HT.out (by repeat (first | (with_reducible first | exact HB.out | apply below_alloc | apply pw_below_drewN | apply below_drew1) | exact HB.out)))).mono ?_); rintro e w6 ⟨rfl, hb⟩; refine ⟨_, rfl, ?_⟩; have n0_ := Aside0.mk (below_step (by repeat (first | (with_reducible first | exact HB.out | apply below_alloc | apply pw_below_drewN | apply below_drew1) | exact HB.out)) hb); clear HB; have HB := n0_; clear n0_; (try clear hb); (try clear hb2); (try clear hk); (try clear hi)))
    go_ret
    exact ⟨by first | rfl | (simp [errW_none, errW_some] <;> rfl) | (simp [*, errW_none, errW_some] <;> rfl), by repeat (first | (with_reducible first | exact HB.out | apply below_alloc | apply pw_below_drewN | apply below_drew1) | exact HB.out)⟩
  · rw [if_neg c5] at H
    have c5b0 : decide (100 < (a0.size : Int)) = false := decide_eq_false c5
    have c5b1 : decide (100 < a0.size) = false := decide_eq_false (by omega)
    clear c5
    replace H := Option.bind_eq_some_iff.mp H
    obtain ⟨⟨t263, t264⟩, A70, H⟩ := H
    replace H : ((path_Numbered.f k a0 (wrap64 (Int.tmod a2 10000))).bind fun bt265 => (if (t264 != bt265.2) = true then (if t262 = true then (if (t264 == bt265.2) = true then (some (t263.toList == ([] : List UInt8))) else (some false)) else (some false)) else (if t264 = true then (if t262 = true then (if (t263.size : Int) = (wrap64 ((a0.size : Int) + 4)) then (if ((Op.bytesLess t263.toList bt265.1.toList) == (decide ((Int.tmod a1 10000) < (Int.tmod a2 10000)))) = true then (if ((t263.toList == bt265.1.toList) == ((Int.tmod a1 10000) == (Int.tmod a2 10000))) = true then (if 0 ≤ (a0.size : Int) then (if (a0.size : Int) ≤ (t263.size : Int) then (some ((t263.extract 0 ((a0.size : Int) : Int).toNat).toList == a0.toList)) else (none)) else (none)) else (some false)) else (some false)) else (some false)) else (some false)) else (if t262 = true then (if (t264 == bt265.2) = true then (some (t263.toList == ([] : List UInt8))) else (some false)) else (some false))))) = some r := H
    have A7 := Aside0.mk A70
    clear A70
    replace H := Option.bind_eq_some_iff.mp H
    obtain ⟨⟨t265, t266⟩, A80, H⟩ := H
    replace H : (if (t264 != t266) = true then (if t262 = true then (if (t264 == t266) = true then (some (t263.toList == ([] : List UInt8))) else (some false)) else (some false)) else (if t264 = true then (if t262 = true then (if (t263.size : Int) = (wrap64 ((a0.size : Int) + 4)) then (if ((Op.bytesLess t263.toList t265.toList) == (decide ((Int.tmod a1 10000) < (Int.tmod a2 10000)))) = true then (if ((t263.toList == t265.toList) == ((Int.tmod a1 10000) == (Int.tmod a2 10000))) = true then (if 0 ≤ (a0.size : Int) then (if (a0.size : Int) ≤ (t263.size : Int) then (some ((t263.extract 0 ((a0.size : Int) : Int).toNat).toList == a0.toList)) else (none)) else (none)) else (some false)) else (some false)) else (some false)) else (some false)) else (if t262 = true then (if (t264 == t266) = true then (some (t263.toList == ([] : List UInt8))) else (some false)) else (some false)))) = some r := H
    have A8 := Aside0.mk A80
    clear A80
    by_cases c9 : (t264 != t266) = true
    · rw [if_pos c9] at H
      have c9b0 : (t264 != t266) = true := c9
      (try (have c9b1 : decide (t264 = t266) = false := by simpa using c9))
      (try (have c9b2 : (t264 == t266) = false := by simpa using c9))
      (try (have c9b3 : ¬ (t264 = t266) := by simpa using c9))
      clear c9
      by_cases c10 : t262 = true
      · subst c10
        have H1 : (if (t264 == t266) = true then (some (t263.toList == ([] : List UInt8))) else (some false)) = some r := by rw [if_pos rfl] at H; exact H
        clear H
        have H := H1
        clear H1
        by_cases c11 : (t264 == t266) = true
        · rw [if_pos c11] at H
          have c11b0 : (t264 == t266) = true := c11
          (try (have c11b1 : decide (t264 = t266) = true := by simpa using c11))
          (try (have c11b2 : (t264 == t266) = true := by simpa using c11))
          exact absurd (of_decide_eq_true c11b1) c9b3
        · rw [if_neg c11] at H
          have c11b0 : (t264 == t266) = false := by simpa using c11
          (try (have c11b1 : decide (t264 = t266) = false := by simpa using c11))
          (try (have c11b2 : (t264 == t266) = false := by simpa using c11))
          (try (have c11b3 : ¬ (t264 = t266) := by simpa using c11))
          clear c11
          obtain rfl := Option.some.inj H
          go_enter Tryd.func6, Tryd.ntmps6
          go_wp2_with (first | ((with_reducible refine gate_callee (f := 9) rfl ?_); refine goesL_ (some 12) rfl rfl Tryd.func9 (by kernel_rfl) rfl #[] rfl (by (try simp only [List.map_toArray, List.map_cons, List.map_nil]); first | done | rfl | (simp only [List.length_drop, List.length_take]; rfl)) ?_; (with_reducible refine (cantonlaw01_head.calls k  true _ A4.out (Itoa.tab_step HT.out (by repeat (first | (with_reducible first | exact HB.out | apply below_alloc | apply pw_below_drewN | apply below_drew1) | exact HB.out)))).mono ?_); rintro e w15 ⟨rfl, hb⟩; refine ⟨_, rfl, ?_⟩; have n0_ := Aside0.mk (below_step (by repeat (first | (with_reducible first | exact HB.out | apply below_alloc | apply pw_below_drewN | apply below_drew1) | exact HB.out)) hb); clear HB; have HB := n0_; clear n0_; (try clear hb); (try clear hb2); (try clear hk); (try clear hi)) | ((with_reducible refine gate_callee (f := 21) rfl ?_); refine goesL_ (some 22) rfl rfl Tryd.func21 (by kernel_rfl) rfl #[.string a0, .int .i64 (wrap64 (Int.tmod a1 10000))] rfl (by (try simp only [List.map_toArray, List.map_cons, List.map_nil]); first | done | rfl | (simp only [List.length_drop, List.length_take]; rfl)) ?_; (with_reducible refine (path_Numbered.calls k a0 (wrap64 (Int.tmod a1 10000)) t263 t264 _ A7.out (Itoa.tab_step HT.out (by repeat (first | (with_reducible first | exact HB.out | apply below_alloc | apply pw_below_drewN | apply below_drew1) | exact HB.out)))).mono ?_); rintro e w16 ⟨rfl, hb⟩; refine ⟨_, rfl, ?_⟩; have n0_ := Aside0.mk (below_step (by repeat (first | (with_reducible first | exact HB.out | apply below_alloc | apply pw_below_drewN | apply below_drew1) | exact HB.out)) hb); clear HB; have HB := n0_; clear n0_; (try clear hb); (try clear hb2); (try clear hk); (try clear hi)) | ((with_reducible refine gate_callee (f := 21) rfl ?_); refine goesL_ (some 30) rfl rfl Tryd.func21 (by kernel_rfl) rfl #[.string a0, .int .i64 (wrap64 (Int.tmod a2 10000))] rfl (by (try simp only [List.map_toArray, List.map_cons, List.map_nil]); first | done | rfl | (simp only [List.length_drop, List.length_take]; rfl)) ?_; (with_reducible refine (path_Numbered.calls k a0 (wrap64 (Int.tmod a2 10000)) t265 t266 _ A8.out (Itoa.tab_step HT.out (by repeat (first | (with_reducible first | exact HB.out | apply below_alloc | apply pw_below_drewN | apply below_drew1) | exact HB.out)))).mono ?_); rintro e w17 ⟨rfl, hb⟩; refine ⟨_, rfl, ?_⟩; have n0_ := Aside0.mk (below_step (by repeat (first | (with_reducible first | exact HB.out | apply below_alloc | apply pw_below_drewN | apply below_drew1) | exact HB.out)) hb); clear HB; have HB := n0_; clear n0_; (try clear hb); (try clear hb2); (try clear hk); (try clear hi)))
          go_ret
          exact ⟨by first | rfl | (simp [errW_none, errW_some] <;> rfl) | (simp [*, errW_none, errW_some] <;> rfl), by repeat (first | (with_reducible first | exact HB.out | apply below_alloc | apply pw_below_drewN | apply below_drew1) | exact HB.out)⟩
      · replace c10 := Bool.eq_false_iff.mpr c10
        subst c10
        have H1 : (some false) = some r := by rw [if_neg (show ¬ (false = true) by decide)] at H; exact H
        clear H
        have H := H1
        clear H1
        obtain rfl := Option.some.inj H
        go_enter Tryd.func6, Tryd.ntmps6
        go_wp2_with (first | ((with_reducible refine gate_callee (f := 9) rfl ?_); refine goesL_ (some 12) rfl rfl Tryd.func9 (by kernel_rfl) rfl #[] rfl (by (try simp only [List.map_toArray, List.map_cons, List.map_nil]); first | done | rfl | (simp only [List.length_drop, List.length_take]; rfl)) ?_; (with_reducible refine (cantonlaw01_head.calls k  false _ A4.out (Itoa.tab_step HT.out (by repeat (first | (with_reducible first | exact HB.out | apply below_alloc | apply pw_below_drewN | apply below_drew1) | exact HB.out)))).mono ?_); rintro e w18 ⟨rfl, hb⟩; refine ⟨_, rfl, ?_⟩; have n0_ := Aside0.mk (below_step (by repeat (first | (with_reducible first | exact HB.out | apply below_alloc | apply pw_below_drewN | apply below_drew1) | exact HB.out)) hb); clear HB; have HB := n0_; clear n0_; (try clear hb); (try clear hb2); (try clear hk); (try clear hi)) | ((with_reducible refine gate_callee (f := 21) rfl ?_); refine goesL_ (some 22) rfl rfl Tryd.func21 (by kernel_rfl) rfl #[.string a0, .int .i64 (wrap64 (Int.tmod a1 10000))] rfl (by (try simp only [List.map_toArray, List.map_cons, List.map_nil]); first | done | rfl | (simp only [List.length_drop, List.length_take]; rfl)) ?_; (with_reducible refine (path_Numbered.calls k a0 (wrap64 (Int.tmod a1 10000)) t263 t264 _ A7.out (Itoa.tab_step HT.out (by repeat (first | (with_reducible first | exact HB.out | apply below_alloc | apply pw_below_drewN | apply below_drew1) | exact HB.out)))).mono ?_); rintro e w19 ⟨rfl, hb⟩; refine ⟨_, rfl, ?_⟩; have n0_ := Aside0.mk (below_step (by repeat (first | (with_reducible first | exact HB.out | apply below_alloc | apply pw_below_drewN | apply below_drew1) | exact HB.out)) hb); clear HB; have HB := n0_; clear n0_; (try clear hb); (try clear hb2); (try clear hk); (try clear hi)) | ((with_reducible refine gate_callee (f := 21) rfl ?_); refine goesL_ (some 30) rfl rfl Tryd.func21 (by kernel_rfl) rfl #[.string a0, .int .i64 (wrap64 (Int.tmod a2 10000))] rfl (by (try simp only [List.map_toArray, List.map_cons, List.map_nil]); first | done | rfl | (simp only [List.length_drop, List.length_take]; rfl)) ?_; (with_reducible refine (path_Numbered.calls k a0 (wrap64 (Int.tmod a2 10000)) t265 t266 _ A8.out (Itoa.tab_step HT.out (by repeat (first | (with_reducible first | exact HB.out | apply below_alloc | apply pw_below_drewN | apply below_drew1) | exact HB.out)))).mono ?_); rintro e w20 ⟨rfl, hb⟩; refine ⟨_, rfl, ?_⟩; have n0_ := Aside0.mk (below_step (by repeat (first | (with_reducible first | exact HB.out | apply below_alloc | apply pw_below_drewN | apply below_drew1) | exact HB.out)) hb); clear HB; have HB := n0_; clear n0_; (try clear hb); (try clear hb2); (try clear hk); (try clear hi)))
        go_ret
        exact ⟨by first | rfl | (simp [errW_none, errW_some] <;> rfl) | (simp [*, errW_none, errW_some] <;> rfl), by repeat (first | (with_reducible first | exact HB.out | apply below_alloc | apply pw_below_drewN | apply below_drew1) | exact HB.out)⟩
    · rw [if_neg c9] at H
      have c9b0 : (t264 != t266) = false := by simpa using c9
      (try (have c9b1 : decide (t264 = t266) = true := by simpa using c9))
      (try (have c9b2 : (t264 == t266) = true := by simpa using c9))
      clear c9
      by_cases c21 : t264 = true
      · subst c21
        have H1 : (if t262 = true then (if (t263.size : Int) = (wrap64 ((a0.size : Int) + 4)) then (if ((Op.bytesLess t263.toList t265.toList) == (decide ((Int.tmod a1 10000) < (Int.tmod a2 10000)))) = true then (if ((t263.toList == t265.toList) == ((Int.tmod a1 10000) == (Int.tmod a2 10000))) = true then (if 0 ≤ (a0.size : Int) then (if (a0.size : Int) ≤ (t263.size : Int) then (some ((t263.extract 0 ((a0.size : Int) : Int).toNat).toList == a0.toList)) else (none)) else (none)) else (some false)) else (some false)) else (some false)) else (some false)) = some r := by rw [if_pos rfl] at H; exact H
        clear H
        have H := H1
        clear H1
        by_cases c22 : t262 = true
        · subst c22
          have H1 : (if (t263.size : Int) = (wrap64 ((a0.size : Int) + 4)) then (if ((Op.bytesLess t263.toList t265.toList) == (decide ((Int.tmod a1 10000) < (Int.tmod a2 10000)))) = true then (if ((t263.toList == t265.toList) == ((Int.tmod a1 10000) == (Int.tmod a2 10000))) = true then (if 0 ≤ (a0.size : Int) then (if (a0.size : Int) ≤ (t263.size : Int) then (some ((t263.extract 0 ((a0.size : Int) : Int).toNat).toList == a0.toList)) else (none)) else (none)) else (some false)) else (some false)) else (some false)) = some r := by rw [if_pos rfl] at H; exact H
          clear H
          have H := H1
          clear H1
          by_cases c23 : (t263.size : Int) = (wrap64 ((a0.size : Int) + 4))
          · rw [if_pos c23] at H
            have c23b0 : ((t263.size : Int) == (wrap64 ((a0.size : Int) + 4))) = true := beq_iff_eq.mpr c23
            have c23b1 : ((t263.size : Int) != (wrap64 ((a0.size : Int) + 4))) = false := bne_eq_false_iff_eq.mpr c23
            clear c23
            by_cases c24 : ((Op.bytesLess t263.toList t265.toList) == (decide ((Int.tmod a1 10000) < (Int.tmod a2 10000)))) = true
            · rw [if_pos c24] at H
              have c24b0 : ((Op.bytesLess t263.toList t265.toList) == (decide ((Int.tmod a1 10000) < (Int.tmod a2 10000)))) = true := c24
              (try (have c24b1 : decide ((Op.bytesLess t263.toList t265.toList) = (decide ((Int.tmod a1 10000) < (Int.tmod a2 10000)))) = true := by simpa using c24))
              (try (have c24b2 : ((Op.bytesLess t263.toList t265.toList) == (decide ((Int.tmod a1 10000) < (Int.tmod a2 10000)))) = true := by simpa using c24))
              clear c24
              by_cases c25 : ((t263.toList == t265.toList) == ((Int.tmod a1 10000) == (Int.tmod a2 10000))) = true
              · rw [if_pos c25] at H
                have c25b0 : ((t263.toList == t265.toList) == ((Int.tmod a1 10000) == (Int.tmod a2 10000))) = true := c25
                (try (have c25b1 : decide ((t263.toList == t265.toList) = ((Int.tmod a1 10000) == (Int.tmod a2 10000))) = true := by simpa using c25))
                (try (have c25b2 : ((t263.toList == t265.toList) == ((Int.tmod a1 10000) == (Int.tmod a2 10000))) = true := by simpa using c25))
                clear c25
                by_cases c26 : 0 ≤ (a0.size : Int)
                · rw [if_pos c26] at H
                  have c26b0 := eq_true c26
                  have c26b1 : decide (0 ≤ (a0.size : Int)) = true := decide_eq_true c26
                  clear c26
                  by_cases c27 : (a0.size : Int) ≤ (t263.size : Int)
                  · rw [if_pos c27] at H
                    have c27b0 := eq_true c27
                    have c27b1 : decide ((a0.size : Int) ≤ (t263.size : Int)) = true := decide_eq_true c27
                    clear c27
                    obtain rfl := Option.some.inj H
                    go_enter Tryd.func6, Tryd.ntmps6
                    go_wp2_with (first | ((with_reducible refine gate_callee (f := 9) rfl ?_); refine goesL_ (some 12) rfl rfl Tryd.func9 (by kernel_rfl) rfl #[] rfl (by (try simp only [List.map_toArray, List.map_cons, List.map_nil]); first | done | rfl | (simp only [List.length_drop, List.length_take]; rfl)) ?_; (with_reducible refine (cantonlaw01_head.calls k  true _ A4.out (Itoa.tab_step HT.out (by repeat (first | (with_reducible first | exact HB.out | apply below_alloc | apply pw_below_drewN | apply below_drew1) | exact HB.out)))).mono ?_); rintro e w28 ⟨rfl, hb⟩; refine ⟨_, rfl, ?_⟩; have n0_ := Aside0.mk (below_step (by repeat (first | (with_reducible first | exact HB.out | apply below_alloc | apply pw_below_drewN | apply below_drew1) | exact HB.out)) hb); clear HB; have HB := n0_; clear n0_; (try clear hb); (try clear hb2); (try clear hk); (try clear hi)) | ((with_reducible refine gate_callee (f := 21) rfl ?_); refine goesL_ (some 22) rfl rfl Tryd.func21 (by kernel_rfl) rfl #[.string a0, .int .i64 (wrap64 (Int.tmod a1 10000))] rfl (by (try simp only [List.map_toArray, List.map_cons, List.map_nil]); first | done | rfl | (simp only [List.length_drop, List.length_take]; rfl)) ?_; (with_reducible refine (path_Numbered.calls k a0 (wrap64 (Int.tmod a1 10000)) t263 true _ A7.out (Itoa.tab_step HT.out (by repeat (first | (with_reducible first | exact HB.out | apply below_alloc | apply pw_below_drewN | apply below_drew1) | exact HB.out)))).mono ?_); rintro e w29 ⟨rfl, hb⟩; refine ⟨_, rfl, ?_⟩; have n0_ := Aside0.mk (below_step (by repeat (first | (with_reducible first | exact HB.out | apply below_alloc | apply pw_below_drewN | apply below_drew1) | exact HB.out)) hb); clear HB; have HB := n0_; clear n0_; (try clear hb); (try clear hb2); (try clear hk); (try clear hi)) | ((with_reducible refine gate_callee (f := 21) rfl ?_); refine goesL_ (some 30) rfl rfl Tryd.func21 (by kernel_rfl) rfl #[.string a0, .int .i64 (wrap64 (Int.tmod a2 10000))] rfl (by (try simp only [List.map_toArray, List.map_cons, List.map_nil]); first | done | rfl | (simp only [List.length_drop, List.length_take]; rfl)) ?_; (with_reducible refine (path_Numbered.calls k a0 (wrap64 (Int.tmod a2 10000)) t265 t266 _ A8.out (Itoa.tab_step HT.out (by repeat (first | (with_reducible first | exact HB.out | apply below_alloc | apply pw_below_drewN | apply below_drew1) | exact HB.out)))).mono ?_); rintro e w30 ⟨rfl, hb⟩; refine ⟨_, rfl, ?_⟩; have n0_ := Aside0.mk (below_step (by repeat (first | (with_reducible first | exact HB.out | apply below_alloc | apply pw_below_drewN | apply below_drew1) | exact HB.out)) hb); clear HB; have HB := n0_; clear n0_; (try clear hb); (try clear hb2); (try clear hk); (try clear hi)))
                    go_ret
                    exact ⟨by first | rfl | (simp [errW_none, errW_some] <;> rfl) | (simp [*, errW_none, errW_some] <;> rfl), by repeat (first | (with_reducible first | exact HB.out | apply below_alloc | apply pw_below_drewN | apply below_drew1) | exact HB.out)⟩
                  · rw [if_neg c27] at H
                    exact absurd H (by simp)
                · rw [if_neg c26] at H
                  exact absurd H (by simp)
              · rw [if_neg c25] at H
                have c25b0 : ((t263.toList == t265.toList) == ((Int.tmod a1 10000) == (Int.tmod a2 10000))) = false := by simpa using c25
                (try (have c25b1 : decide ((t263.toList == t265.toList) = ((Int.tmod a1 10000) == (Int.tmod a2 10000))) = false := by simpa using c25))
                (try (have c25b2 : ((t263.toList == t265.toList) == ((Int.tmod a1 10000) == (Int.tmod a2 10000))) = false := by simpa using c25))
                (try (have c25b3 : ¬ ((t263.toList == t265.toList) = ((Int.tmod a1 10000) == (Int.tmod a2 10000))) := by simpa using c25))
                clear c25
                obtain rfl := Option.some.inj H
                go_enter Tryd.func6, Tryd.ntmps6
                go_wp2_with (first | ((with_reducible refine gate_callee (f := 9) rfl ?_); refine goesL_ (some 12) rfl rfl Tryd.func9 (by kernel_rfl) rfl #[] rfl (by (try simp only [List.map_toArray, List.map_cons, List.map_nil]); first | done | rfl | (simp only [List.length_drop, List.length_take]; rfl)) ?_; (with_reducible refine (cantonlaw01_head.calls k  true _ A4.out (Itoa.tab_step HT.out (by repeat (first | (with_reducible first | exact HB.out | apply below_alloc | apply pw_below_drewN | apply below_drew1) | exact HB.out)))).mono ?_); rintro e w31 ⟨rfl, hb⟩; refine ⟨_, rfl, ?_⟩; have n0_ := Aside0.mk (below_step (by repeat (first | (with_reducible first | exact HB.out | apply below_alloc | apply pw_below_drewN | apply below_drew1) | exact HB.out)) hb); clear HB; have HB := n0_; clear n0_; (try clear hb); (try clear hb2); (try clear hk); (try clear hi)) | ((with_reducible refine gate_callee (f := 21) rfl ?_); refine goesL_ (some 22) rfl rfl Tryd.func21 (by kernel_rfl) rfl #[.string a0, .int .i64 (wrap64 (Int.tmod a1 10000))] rfl (by (try simp only [List.map_toArray, List.map_cons, List.map_nil]); first | done | rfl | (simp only [List.length_drop, List.length_take]; rfl)) ?_; (with_reducible refine (path_Numbered.calls k a0 (wrap64 (Int.tmod a1 10000)) t263 true _ A7.out (Itoa.tab_step HT.out (by repeat (first | (with_reducible first | exact HB.out | apply below_alloc | apply pw_below_drewN | apply below_drew1) | exact HB.out)))).mono ?_); rintro e w32 ⟨rfl, hb⟩; refine ⟨_, rfl, ?_⟩; have n0_ := Aside0.mk (below_step (by repeat (first | (with_reducible first | exact HB.out | apply below_alloc | apply pw_below_drewN | apply below_drew1) | exact HB.out)) hb); clear HB; have HB := n0_; clear n0_; (try clear hb); (try clear hb2); (try clear hk); (try clear hi)) | ((with_reducible refine gate_callee (f := 21) rfl ?_); refine goesL_ (some 30) rfl rfl Tryd.func21 (by kernel_rfl) rfl #[.string a0, .int .i64 (wrap64 (Int.tmod a2 10000))] rfl (by (try simp only [List.map_toArray, List.map_cons, List.map_nil]); first | done | rfl | (simp only [List.length_drop, List.length_take]; rfl)) ?_; (with_reducible refine (path_Numbered.calls k a0 (wrap64 (Int.tmod a2 10000)) t265 t266 _ A8.out (Itoa.tab_step HT.out (by repeat (first | (with_reducible first | exact HB.out | apply below_alloc | apply pw_below_drewN | apply below_drew1) | exact HB.out)))).mono ?_); rintro e w33 ⟨rfl, hb⟩; refine ⟨_, rfl, ?_⟩; have n0_ := Aside0.mk (below_step (by repeat (first | (with_reducible first | exact HB.out | apply below_alloc | apply pw_below_drewN | apply below_drew1) | exact HB.out)) hb); clear HB; have HB := n0_; clear n0_; (try clear hb); (try clear hb2); (try clear hk); (try clear hi)))
                go_ret
                exact ⟨by first | rfl | (simp [errW_none, errW_some] <;> rfl) | (simp [*, errW_none, errW_some] <;> rfl), by repeat (first | (with_reducible first | exact HB.out | apply below_alloc | apply pw_below_drewN | apply below_drew1) | exact HB.out)⟩
            · rw [if_neg c24] at H
              have c24b0 : ((Op.bytesLess t263.toList t265.toList) == (decide ((Int.tmod a1 10000) < (Int.tmod a2 10000)))) = false := by simpa using c24
              (try (have c24b1 : decide ((Op.bytesLess t263.toList t265.toList) = (decide ((Int.tmod a1 10000) < (Int.tmod a2 10000)))) = false := by simpa using c24))
              (try (have c24b2 : ((Op.bytesLess t263.toList t265.toList) == (decide ((Int.tmod a1 10000) < (Int.tmod a2 10000)))) = false := by simpa using c24))
              (try (have c24b3 : ¬ ((Op.bytesLess t263.toList t265.toList) = (decide ((Int.tmod a1 10000) < (Int.tmod a2 10000)))) := by simpa using c24))
              clear c24
              obtain rfl := Option.some.inj H
              go_enter Tryd.func6, Tryd.ntmps6
              go_wp2_with (first | ((with_reducible refine gate_callee (f := 9) rfl ?_); refine goesL_ (some 12) rfl rfl Tryd.func9 (by kernel_rfl) rfl #[] rfl (by (try simp only [List.map_toArray, List.map_cons, List.map_nil]); first | done | rfl | (simp only [List.length_drop, List.length_take]; rfl)) ?_; (with_reducible refine (cantonlaw01_head.calls k  true _ A4.out (Itoa.tab_step HT.out (by repeat (first | (with_reducible first | exact HB.out | apply below_alloc | apply pw_below_drewN | apply below_drew1) | exact HB.out)))).mono ?_); rintro e w34 ⟨rfl, hb⟩; refine ⟨_, rfl, ?_⟩; have n0_ := Aside0.mk (below_step (by repeat (first | (with_reducible first | exact HB.out | apply below_alloc | apply pw_below_drewN | apply below_drew1) | exact HB.out)) hb); clear HB; have HB := n0_; clear n0_; (try clear hb); (try clear hb2); (try clear hk); (try clear hi)) | ((with_reducible refine gate_callee (f := 21) rfl ?_); refine goesL_ (some 22) rfl rfl Tryd.func21 (by kernel_rfl) rfl #[.string a0, .int .i64 (wrap64 (Int.tmod a1 10000))] rfl (by (try simp only [List.map_toArray, List.map_cons, List.map_nil]); first | done | rfl | (simp only [List.length_drop, List.length_take]; rfl)) ?_; (with_reducible refine (path_Numbered.calls k a0 (wrap64 (Int.tmod a1 10000)) t263 true _ A7.out (Itoa.tab_step HT.out (by repeat (first | (with_reducible first | exact HB.out | apply below_alloc | apply pw_below_drewN | apply below_drew1) | exact HB.out)))).mono ?_); rintro e w35 ⟨rfl, hb⟩; refine ⟨_, rfl, ?_⟩; have n0_ := Aside0.mk (below_step (by repeat (first | (with_reducible first | exact HB.out | apply below_alloc | apply pw_below_drewN | apply below_drew1) | exact HB.out)) hb); clear HB; have HB := n0_; clear n0_; (try clear hb); (try clear hb2); (try clear hk); (try clear hi)) | ((with_reducible refine gate_callee (f := 21) rfl ?_); refine goesL_ (some 30) rfl rfl Tryd.func21 (by kernel_rfl) rfl #[.string a0, .int .i64 (wrap64 (Int.tmod a2 10000))] rfl (by (try simp only [List.map_toArray, List.map_cons, List.map_nil]); first | done | rfl | (simp only [List.length_drop, List.length_take]; rfl)) ?_; (with_reducible refine (path_Numbered.calls k a0 (wrap64 (Int.tmod a2 10000)) t265 t266 _ A8.out (Itoa.tab_step HT.out (by repeat (first | (with_reducible first | exact HB.out | apply below_alloc | apply pw_below_drewN | apply below_drew1) | exact HB.out)))).mono ?_); rintro e w36 ⟨rfl, hb⟩; refine ⟨_, rfl, ?_⟩; have n0_ := Aside0.mk (below_step (by repeat (first | (with_reducible first | exact HB.out | apply below_alloc | apply pw_below_drewN | apply below_drew1) | exact HB.out)) hb); clear HB; have HB := n0_; clear n0_; (try clear hb); (try clear hb2); (try clear hk); (try clear hi)))
              go_ret
              exact ⟨by first | rfl | (simp [errW_none, errW_some] <;> rfl) | (simp [*, errW_none, errW_some] <;> rfl), by repeat (first | (with_reducible first | exact HB.out | apply below_alloc | apply pw_below_drewN | apply below_drew1) | exact HB.out)⟩
          · rw [if_neg c23] at H
            have c23b0 : ((t263.size : Int) == (wrap64 ((a0.size : Int) + 4))) = false := beq_eq_false_iff_ne.mpr c23
            have c23b1 : ((t263.size : Int) != (wrap64 ((a0.size : Int) + 4))) = true := bne_iff_ne.mpr c23
            obtain rfl := Option.some.inj H
            go_enter Tryd.func6, Tryd.ntmps6
            go_wp2_with (first | ((with_reducible refine gate_callee (f := 9) rfl ?_); refine goesL_ (some 12) rfl rfl Tryd.func9 (by kernel_rfl) rfl #[] rfl (by (try simp only [List.map_toArray, List.map_cons, List.map_nil]); first | done | rfl | (simp only [List.length_drop, List.length_take]; rfl)) ?_; (with_reducible refine (cantonlaw01_head.calls k  true _ A4.out (Itoa.tab_step HT.out (by repeat (first | (with_reducible first | exact HB.out | apply below_alloc | apply pw_below_drewN | apply below_drew1) | exact HB.out)))).mono ?_); rintro e w37 ⟨rfl, hb⟩; refine ⟨_, rfl, ?_⟩; have n0_ := Aside0.mk (below_step (by repeat (first | (with_reducible first | exact HB.out | apply below_alloc | apply pw_below_drewN | apply below_drew1) | exact HB.out)) hb); clear HB; have HB := n0_; clear n0_; (try clear hb); (try clear hb2); (try clear hk); (try clear hi)) | ((with_reducible refine gate_callee (f := 21) rfl ?_); refine goesL_ (some 22) rfl rfl Tryd.func21 (by kernel_rfl) rfl #[.string a0, .int .i64 (wrap64 (Int.tmod a1 10000))] rfl (by (try simp only [List.map_toArray, List.map_cons, List.map_nil]); first | done | rfl | (simp only [List.length_drop, List.length_take]; rfl)) ?_; (with_reducible refine (path_Numbered.calls k a0 (wrap64 (Int.tmod a1 10000)) t263 true _ A7.out (Itoa.tab_step HT.out (by repeat (first | (with_reducible first | exact HB.out | apply below_alloc | apply pw_below_drewN | apply below_drew1) | exact HB.out)))).mono ?_); rintro e w38 ⟨rfl, hb⟩; refine ⟨_, rfl, ?_⟩; have n0_ := Aside0.mk (below_step (by repeat (first | (with_reducible first | exact HB.out | apply below_alloc | apply pw_below_drewN | apply below_drew1) | exact HB.out)) hb); clear HB; have HB := n0_; clear n0_; (try clear hb); (try clear hb2); (try clear hk); (try clear hi)) | ((with_reducible refine gate_callee (f := 21) rfl ?_); refine goesL_ (some 30) rfl rfl Tryd.func21 (by kernel_rfl) rfl #[.string a0, .int .i64 (wrap64 (Int.tmod a2 10000))] rfl (by (try simp only [List.map_toArray, List.map_cons, List.map_nil]); first | done | rfl | (simp only [List.length_drop, List.length_take]; rfl)) ?_; (with_reducible refine (path_Numbered.calls k a0 (wrap64 (Int.tmod a2 10000)) t265 t266 _ A8.out (Itoa.tab_step HT.out (by repeat (first | (with_reducible first | exact HB.out | apply below_alloc | apply pw_below_drewN | apply below_drew1) | exact HB.out)))).mono ?_); rintro e w39 ⟨rfl, hb⟩; refine ⟨_, rfl, ?_⟩; have n0_ := Aside0.mk (below_step (by repeat (first | (with_reducible first | exact HB.out | apply below_alloc | apply pw_below_drewN | apply below_drew1) | exact HB.out)) hb); clear HB; have HB := n0_; clear n0_; (try clear hb); (try clear hb2); (try clear hk); (try clear hi)))
            go_ret
            exact ⟨by first | rfl | (simp [errW_none, errW_some] <;> rfl) | (simp [*, errW_none, errW_some] <;> rfl), by repeat (first | (with_reducible first | exact HB.out | apply below_alloc | apply pw_below_drewN | apply below_drew1) | exact HB.out)⟩
        · replace c22 := Bool.eq_false_iff.mpr c22
          subst c22
          have H1 : (some false) = some r := by rw [if_neg (show ¬ (false = true) by decide)] at H; exact H
          clear H
          have H := H1
          clear H1
          obtain rfl := Option.some.inj H
          go_enter Tryd.func6, Tryd.ntmps6
          go_wp2_with (first | ((with_reducible refine gate_callee (f := 9) rfl ?_); refine goesL_ (some 12) rfl rfl Tryd.func9 (by kernel_rfl) rfl #[] rfl (by (try simp only [List.map_toArray, List.map_cons, List.map_nil]); first | done | rfl | (simp only [List.length_drop, List.length_take]; rfl)) ?_; (with_reducible refine (cantonlaw01_head.calls k  false _ A4.out (Itoa.tab_step HT.out (by repeat (first | (with_reducible first | exact HB.out | apply below_alloc | apply pw_below_drewN | apply below_drew1) | exact HB.out)))).mono ?_); rintro e w40 ⟨rfl, hb⟩; refine ⟨_, rfl, ?_⟩; have n0_ := Aside0.mk (below_step (by repeat (first | (with_reducible first | exact HB.out | apply below_alloc | apply pw_below_drewN | apply below_drew1) | exact HB.out)) hb); clear HB; have HB := n0_; clear n0_; (try clear hb); (try clear hb2); (try clear hk); (try clear hi)) | ((with_reducible refine gate_callee (f := 21) rfl ?_); refine goesL_ (some 22) rfl rfl Tryd.func21 (by kernel_rfl) rfl #[.string a0, .int .i64 (wrap64 (Int.tmod a1 10000))] rfl (by (try simp only [List.map_toArray, List.map_cons, List.map_nil]); first | done | rfl | (simp only [List.length_drop, List.length_take]; rfl)) ?_; (with_reducible refine (path_Numbered.calls k a0 (wrap64 (Int.tmod a1 10000)) t263 true _ A7.out (Itoa.tab_step HT.out (by repeat (first | (with_reducible first | exact HB.out | apply below_alloc | apply pw_below_drewN | apply below_drew1) | exact HB.out)))).mono ?_); rintro e w41 ⟨rfl, hb⟩; refine ⟨_, rfl, ?_⟩; have n0_ := Aside0.mk (below_step (by repeat (first | (with_reducible first | exact HB.out | apply below_alloc | apply pw_below_drewN | apply below_drew1) | exact HB.out)) hb); clear HB; have HB := n0_; clear n0_; (try clear hb); (try clear hb2); (try clear hk); (try clear hi)) | ((with_reducible refine gate_callee (f := 21) rfl ?_); refine goesL_ (some 30) rfl rfl Tryd.func21 (by kernel_rfl) rfl #[.string a0, .int .i64 (wrap64 (Int.tmod a2 10000))] rfl (by (try simp only [List.map_toArray, List.map_cons, List.map_nil]); first | done | rfl | (simp only [List.length_drop, List.length_take]; rfl)) ?_; (with_reducible refine (path_Numbered.calls k a0 (wrap64 (Int.tmod a2 10000)) t265 t266 _ A8.out (Itoa.tab_step HT.out (by repeat (first | (with_reducible first | exact HB.out | apply below_alloc | apply pw_below_drewN | apply below_drew1) | exact HB.out)))).mono ?_); rintro e w42 ⟨rfl, hb⟩; refine ⟨_, rfl, ?_⟩; have n0_ := Aside0.mk (below_step (by repeat (first | (with_reducible first | exact HB.out | apply below_alloc | apply pw_below_drewN | apply below_drew1) | exact HB.out)) hb); clear HB; have HB := n0_; clear n0_; (try clear hb); (try clear hb2); (try clear hk); (try clear hi)))
          go_ret
          exact ⟨by first | rfl | (simp [errW_none, errW_some] <;> rfl) | (simp [*, errW_none, errW_some] <;> rfl), by repeat (first | (with_reducible first | exact HB.out | apply below_alloc | apply pw_below_drewN | apply below_drew1) | exact HB.out)⟩
      · replace c21 := Bool.eq_false_iff.mpr c21
        subst c21
        have H1 : (if t262 = true then (if (false == t266) = true then (some (t263.toList == ([] : List UInt8))) else (some false)) else (some false)) = some r := by rw [if_neg (show ¬ (false = true) by decide)] at H; exact H
        clear H
        have H := H1
        clear H1
        by_cases c43 : t262 = true
        · subst c43
          have H1 : (if (false == t266) = true then (some (t263.toList == ([] : List UInt8))) else (some false)) = some r := by rw [if_pos rfl] at H; exact H
          clear H
          have H := H1
          clear H1
          by_cases c44 : (false == t266) = true
          · rw [if_pos c44] at H
            have c44b0 : (false == t266) = true := c44
            (try (have c44b1 : decide (false = t266) = true := by simpa using c44))
            (try (have c44b2 : (false == t266) = true := by simpa using c44))
            clear c44
            obtain rfl := Option.some.inj H
            go_enter Tryd.func6, Tryd.ntmps6
            go_wp2_with (first | ((with_reducible refine gate_callee (f := 9) rfl ?_); refine goesL_ (some 12) rfl rfl Tryd.func9 (by kernel_rfl) rfl #[] rfl (by (try simp only [List.map_toArray, List.map_cons, List.map_nil]); first | done | rfl | (simp only [List.length_drop, List.length_take]; rfl)) ?_; (with_reducible refine (cantonlaw01_head.calls k  true _ A4.out (Itoa.tab_step HT.out (by repeat (first | (with_reducible first | exact HB.out | apply below_alloc | apply pw_below_drewN | apply below_drew1) | exact HB.out)))).mono ?_); rintro e w45 ⟨rfl, hb⟩; refine ⟨_, rfl, ?_⟩; have n0_ := Aside0.mk (below_step (by repeat (first | (with_reducible first | exact HB.out | apply below_alloc | apply pw_below_drewN | apply below_drew1) | exact HB.out)) hb); clear HB; have HB := n0_; clear n0_; (try clear hb); (try clear hb2); (try clear hk); (try clear hi)) | ((with_reducible refine gate_callee (f := 21) rfl ?_); refine goesL_ (some 22) rfl rfl Tryd.func21 (by kernel_rfl) rfl #[.string a0, .int .i64 (wrap64 (Int.tmod a1 10000))] rfl (by (try simp only [List.map_toArray, List.map_cons, List.map_nil]); first | done | rfl | (simp only [List.length_drop, List.length_take]; rfl)) ?_; (with_reducible refine (path_Numbered.calls k a0 (wrap64 (Int.tmod a1 10000)) t263 false _ A7.out (Itoa.tab_step HT.out (by repeat (first | (with_reducible first | exact HB.out | apply below_alloc | apply pw_below_drewN | apply below_drew1) | exact HB.out)))).mono ?_); rintro e w46 ⟨rfl, hb⟩; refine ⟨_, rfl, ?_⟩; have n0_ := Aside0.mk (below_step (by repeat (first | (with_reducible first | exact HB.out | apply below_alloc | apply pw_below_drewN | apply below_drew1) | exact HB.out)) hb); clear HB; have HB := n0_; clear n0_; (try clear hb); (try clear hb2); (try clear hk); (try clear hi)) | ((with_reducible refine gate_callee (f := 21) rfl ?_); refine goesL_ (some 30) rfl rfl Tryd.func21 (by kernel_rfl) rfl #[.string a0, .int .i64 (wrap64 (Int.tmod a2 10000))] rfl (by (try simp only [List.map_toArray, List.map_cons, List.map_nil]); first | done | rfl | (simp only [List.length_drop, List.length_take]; rfl)) ?_; (with_reducible refine (path_Numbered.calls k a0 (wrap64 (Int.tmod a2 10000)) t265 t266 _ A8.out (Itoa.tab_step HT.out (by repeat (first | (with_reducible first | exact HB.out | apply below_alloc | apply pw_below_drewN | apply below_drew1) | exact HB.out)))).mono ?_); rintro e w47 ⟨rfl, hb⟩; refine ⟨_, rfl, ?_⟩; have n0_ := Aside0.mk (below_step (by repeat (first | (with_reducible first | exact HB.out | apply below_alloc | apply pw_below_drewN | apply below_drew1) | exact HB.out)) hb); clear HB; have HB := n0_; clear n0_; (try clear hb); (try clear hb2); (try clear hk); (try clear hi)))
            go_ret
            exact ⟨by first | rfl | (simp [errW_none, errW_some] <;> rfl) | (simp [*, errW_none, errW_some] <;> rfl), by repeat (first | (with_reducible first | exact HB.out | apply below_alloc | apply pw_below_drewN | apply below_drew1) | exact HB.out)⟩
          · rw [if_neg c44] at H
            have c44b0 : (false == t266) = false := by simpa using c44
            (try (have c44b1 : decide (false = t266) = false := by simpa using c44))
            (try (have c44b2 : (false == t266) = false := by simpa using c44))
            (try (have c44b3 : ¬ (false = t266) := by simpa using c44))
            exact absurd (of_decide_eq_true c9b1) c44b3
        · replace c43 := Bool.eq_false_iff.mpr c43
          subst c43
          have H1 : (some false) = some r := by rw [if_neg (show ¬ (false = true) by decide)] at H; exact H
          clear H
          have H := H1
          clear H1
          obtain rfl := Option.some.inj H
          go_enter Tryd.func6, Tryd.ntmps6
          go_wp2_with (first | ((with_reducible refine gate_callee (f := 9) rfl ?_); refine goesL_ (some 12) rfl rfl Tryd.func9 (by kernel_rfl) rfl #[] rfl (by (try simp only [List.map_toArray, List.map_cons, List.map_nil]); first | done | rfl | (simp only [List.length_drop, List.length_take]; rfl)) ?_; (with_reducible refine (cantonlaw01_head.calls k  false _ A4.out (Itoa.tab_step HT.out (by repeat (first | (with_reducible first | exact HB.out | apply below_alloc | apply pw_below_drewN | apply below_drew1) | exact HB.out)))).mono ?_); rintro e w51 ⟨rfl, hb⟩; refine ⟨_, rfl, ?_⟩; have n0_ := Aside0.mk (below_step (by repeat (first | (with_reducible first | exact HB.out | apply below_alloc | apply pw_below_drewN | apply below_drew1) | exact HB.out)) hb); clear HB; have HB := n0_; clear n0_; (try clear hb); (try clear hb2); (try clear hk); (try clear hi)) | ((with_reducible refine gate_callee (f := 21) rfl ?_); refine goesL_ (some 22) rfl rfl Tryd.func21 (by kernel_rfl) rfl #[.string a0, .int .i64 (wrap64 (Int.tmod a1 10000))] rfl (by (try simp only [List.map_toArray, List.map_cons, List.map_nil]); first | done | rfl | (simp only [List.length_drop, List.length_take]; rfl)) ?_; (with_reducible refine (path_Numbered.calls k a0 (wrap64 (Int.tmod a1 10000)) t263 false _ A7.out (Itoa.tab_step HT.out (by repeat (first | (with_reducible first | exact HB.out | apply below_alloc | apply pw_below_drewN | apply below_drew1) | exact HB.out)))).mono ?_); rintro e w52 ⟨rfl, hb⟩; refine ⟨_, rfl, ?_⟩; have n0_ := Aside0.mk (below_step (by repeat (first | (with_reducible first | exact HB.out | apply below_alloc | apply pw_below_drewN | apply below_drew1) | exact HB.out)) hb); clear HB; have HB := n0_; clear n0_; (try clear hb); (try clear hb2); (try clear hk); (try clear hi)) | ((with_reducible refine gate_callee (f := 21) rfl ?_); refine goesL_ (some 30) rfl rfl Tryd.func21 (by kernel_rfl) rfl #[.string a0, .int .i64 (wrap64 (Int.tmod a2 10000))] rfl (by (try simp only [List.map_toArray, List.map_cons, List.map_nil]); first | done | rfl | (simp only [List.length_drop, List.length_take]; rfl)) ?_; (with_reducible refine (path_Numbered.calls k a0 (wrap64 (Int.tmod a2 10000)) t265 t266 _ A8.out (Itoa.tab_step HT.out (by repeat (first | (with_reducible first | exact HB.out | apply below_alloc | apply pw_below_drewN | apply below_drew1) | exact HB.out)))).mono ?_); rintro e w53 ⟨rfl, hb⟩; refine ⟨_, rfl, ?_⟩; have n0_ := Aside0.mk (below_step (by repeat (first | (with_reducible first | exact HB.out | apply below_alloc | apply pw_below_drewN | apply below_drew1) | exact HB.out)) hb); clear HB; have HB := n0_; clear n0_; (try clear hb); (try clear hb2); (try clear hk); (try clear hi)))
          go_ret
          exact ⟨by first | rfl | (simp [errW_none, errW_some] <;> rfl) | (simp [*, errW_none, errW_some] <;> rfl), by repeat (first | (with_reducible first | exact HB.out | apply below_alloc | apply pw_below_drewN | apply below_drew1) | exact HB.out)⟩

/-- THE ONE PURE STATEMENT of cantonlaw01_PathNumbers: yours. -/
def cantonlaw01_PathNumbers.Pure : Prop := ∀ (a0 : ByteArray) (a1 : Int) (a2 : Int), a0.size ≤ 140737488351232 → (Lit.int .u16 a1).wf = true → (Lit.int .u16 a2).wf = true → ∃ k, cantonlaw01_PathNumbers.f k a0 a1 a2 = some true
theorem cantonlaw01_PathNumbers.walk (P : cantonlaw01_PathNumbers.Pure) (a0 : ByteArray) (a1 : Int) (a2 : Int) (w : World) (w0 : a0.size ≤ 140737488351232) (w1 : (Lit.int .u16 a1).wf = true) (w2 : (Lit.int .u16 a2).wf = true) (hT : Itoa.Tab w) :
    Calls Tryd.prog 6 #[.string a0, .int .u16 a1, .int .u16 a2] w fun e w' => e = .returned (.bool true) ∧ Below w.heap.size w w' := by
  obtain ⟨k, h⟩ := P a0 a1 a2 w0 w1 w2
  refine (cantonlaw01_PathNumbers.calls k a0 a1 a2 true w h hT).mono ?_
  rintro e w' ⟨rfl, hd⟩
  exact ⟨rfl, hd⟩

end Go.Proofs.YtopgenipifhjfaaDoor.Q
