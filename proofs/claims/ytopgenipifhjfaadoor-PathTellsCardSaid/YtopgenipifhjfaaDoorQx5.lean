-- Written by a program of this session (xprint) out of the translation; over contracts proved by hand.
import Derived.Test.YtopgenipifhjfaaDoorQx0
import Derived.Test.YtopgenipifhjfaaDoorQx1
import Derived.Test.YtopgenipifhjfaaDoorQx2
import Derived.Test.YtopgenipifhjfaaDoorQx3
import Derived.Test.YtopgenipifhjfaaDoorQx4
import Derived.Test.YtopgenipifhjfaaDoorSplit
namespace Go.Proofs.YtopgenipifhjfaaDoor.Itoa
end Go.Proofs.YtopgenipifhjfaaDoor.Itoa
namespace Go.Proofs.YtopgenipifhjfaaDoor.Split
end Go.Proofs.YtopgenipifhjfaaDoor.Split
namespace Go.Proofs.YtopgenipifhjfaaDoor.Q
open Go.Proofs.YtopgenipifhjfaaDoor.Itoa Go.Proofs.YtopgenipifhjfaaDoor.Split
set_option linter.unnecessarySimpa false
open Go.RowKit Go.Proofs.YtopgenipifhjfaaDoorW.PrintWords Go.Proofs.YtopgenipifhjfaaDoorW.PrintLast Go.Proofs.YtopgenipifhjfaaDoorW.PrintMore
attribute [local go_sem] max2_int min2_int max_two min_two max_three min_three max_four min_four   -- for this text's walks alone
set_option linter.unusedVariables false
set_option linter.unusedSimpArgs false

/-! ### cantonlaw01_PathTells: function 3 -/
mutual
def cantonlaw01_PathTells.j0 : Nat → ByteArray → ByteArray → Int → Bool → Bool → Option (Bool)
  | 0, _, _, _, _, _ => none
  | k + 1, x0, x1, x2, x7, x32 => if x32 = true then (some x7) else ((path_Split.f x0).bind fun bt202 => ((cantonref01_Split.f k x0).bind fun bt206 => ((path_Parent.f k x0).bind fun bt210 => ((cantonref01_Parent.f k x0).bind fun bt212 => ((path_Right.f x0).bind fun t214 => ((cantonref01_Right.f k x0).bind fun t215 => (if (t214 != t215) = true then (cantonlaw01_PathTells.j1 k x0 x1 x2 x7 true) else ((cantonref01_Same.f k bt202.1 bt206.1).bind fun t216 => (if t216 = true then (if (bt202.2 != bt206.2) = true then (cantonlaw01_PathTells.j1 k x0 x1 x2 x7 true) else (if bt210.1.toList = bt212.1.toList then (if (bt210.2 != bt212.2) = true then (cantonlaw01_PathTells.j1 k x0 x1 x2 x7 true) else ((path_Last.f k x0).bind fun t217 => ((cantonref01_Last.f k x0).bind fun t218 => (cantonlaw01_PathTells.j1 k x0 x1 x2 x7 (t217.toList != t218.toList))))) else (cantonlaw01_PathTells.j1 k x0 x1 x2 x7 true))) else (cantonlaw01_PathTells.j1 k x0 x1 x2 x7 true))))))))))
def cantonlaw01_PathTells.j1 : Nat → ByteArray → ByteArray → Int → Bool → Bool → Option (Bool)
  | 0, _, _, _, _, _ => none
  | k + 1, x0, x1, x2, x7, x86 => if x86 = true then (some false) else ((path_Join.f x0 x1).bind fun bt219 => ((cantonref01_Join.f k x0 x1).bind fun bt221 => ((path_Numbered.f k x1 x2).bind fun bt223 => ((cantonref01_Numbered.f k x1 x2).bind fun bt225 => (if x7 = true then (if bt219.1.toList = bt221.1.toList then (if (bt219.2 == bt221.2) = true then (if bt223.1.toList = bt225.1.toList then (if (bt223.2 == bt225.2) = true then ((path_In.f k x0 x1).bind fun t227 => ((cantonref01_In.f k x0 x1).bind fun t228 => (some (t227 == t228)))) else (some false)) else (some false)) else (some false)) else (some false)) else (some false))))))
end
def cantonlaw01_PathTells.f (k : Nat) (a0 : ByteArray) (a1 : ByteArray) (a2 : Int) : Option (Bool) := (cantonlaw01_head.f k).bind fun t201 => (if (a0.size : Int) > 3000 then (cantonlaw01_PathTells.j0 k a0 a1 a2 t201 true) else (cantonlaw01_PathTells.j0 k a0 a1 a2 t201 (decide ((a1.size : Int) > 3000))))
theorem cantonlaw01_PathTells.mono_l : ∀ k, (∀ y0 y1 y2 y3 y4, LeO (cantonlaw01_PathTells.j0 k y0 y1 y2 y3 y4) (cantonlaw01_PathTells.j0 (k + 1) y0 y1 y2 y3 y4)) ∧ (∀ y0 y1 y2 y3 y4, LeO (cantonlaw01_PathTells.j1 k y0 y1 y2 y3 y4) (cantonlaw01_PathTells.j1 (k + 1) y0 y1 y2 y3 y4))
  | 0 => ⟨fun _ _ _ _ _ r h => by simp [cantonlaw01_PathTells.j0] at h, fun _ _ _ _ _ r h => by simp [cantonlaw01_PathTells.j1] at h⟩
  | k + 1 => by
    obtain ⟨ih0, ih1⟩ := cantonlaw01_PathTells.mono_l k
    refine ⟨?_, ?_⟩
    · intro y0 y1 y2 y3 y4
      unfold cantonlaw01_PathTells.j0
      repeat' first
      | (with_reducible exact ih0 _ _ _ _ _)
      | (with_reducible exact ih1 _ _ _ _ _)
      | (with_reducible exact cantonlaw01_head.mono _)
      | (with_reducible exact cantonref01_In.mono _ _ _)
      | (with_reducible exact cantonref01_Join.mono _ _ _)
      | (with_reducible exact cantonref01_Last.mono _ _)
      | (with_reducible exact cantonref01_Numbered.mono _ _ _)
      | (with_reducible exact cantonref01_Parent.mono _ _)
      | (with_reducible exact cantonref01_Right.mono _ _)
      | (with_reducible exact cantonref01_Same.mono _ _ _)
      | (with_reducible exact cantonref01_Split.mono _ _)
      | (with_reducible exact path_In.mono _ _ _)
      | (with_reducible exact path_Last.mono _ _)
      | (with_reducible exact path_Numbered.mono _ _ _)
      | (with_reducible exact path_Parent.mono _ _)
      | (with_reducible exact LeO.refl _)
      | (with_reducible exact LeO.none _)
      | (with_reducible refine LeO.ite ?_ ?_)
      | (with_reducible refine LeO.bind ?_ (fun _ => ?_))
      | exact ih0 _ _ _ _ _
      | exact ih1 _ _ _ _ _
      | exact cantonlaw01_head.mono _
      | exact cantonref01_In.mono _ _ _
      | exact cantonref01_Join.mono _ _ _
      | exact cantonref01_Last.mono _ _
      | exact cantonref01_Numbered.mono _ _ _
      | exact cantonref01_Parent.mono _ _
      | exact cantonref01_Right.mono _ _
      | exact cantonref01_Same.mono _ _ _
      | exact cantonref01_Split.mono _ _
      | exact path_In.mono _ _ _
      | exact path_Last.mono _ _
      | exact path_Numbered.mono _ _ _
      | exact path_Parent.mono _ _
      | exact LeO.none _
      | refine LeO.ite ?_ ?_
      | refine LeO.bind ?_ (fun _ => ?_)
    · intro y0 y1 y2 y3 y4
      unfold cantonlaw01_PathTells.j1
      repeat' first
      | (with_reducible exact ih0 _ _ _ _ _)
      | (with_reducible exact ih1 _ _ _ _ _)
      | (with_reducible exact cantonlaw01_head.mono _)
      | (with_reducible exact cantonref01_In.mono _ _ _)
      | (with_reducible exact cantonref01_Join.mono _ _ _)
      | (with_reducible exact cantonref01_Last.mono _ _)
      | (with_reducible exact cantonref01_Numbered.mono _ _ _)
      | (with_reducible exact cantonref01_Parent.mono _ _)
      | (with_reducible exact cantonref01_Right.mono _ _)
      | (with_reducible exact cantonref01_Same.mono _ _ _)
      | (with_reducible exact cantonref01_Split.mono _ _)
      | (with_reducible exact path_In.mono _ _ _)
      | (with_reducible exact path_Last.mono _ _)
      | (with_reducible exact path_Numbered.mono _ _ _)
      | (with_reducible exact path_Parent.mono _ _)
      | (with_reducible exact LeO.refl _)
      | (with_reducible exact LeO.none _)
      | (with_reducible refine LeO.ite ?_ ?_)
      | (with_reducible refine LeO.bind ?_ (fun _ => ?_))
      | exact ih0 _ _ _ _ _
      | exact ih1 _ _ _ _ _
      | exact cantonlaw01_head.mono _
      | exact cantonref01_In.mono _ _ _
      | exact cantonref01_Join.mono _ _ _
      | exact cantonref01_Last.mono _ _
      | exact cantonref01_Numbered.mono _ _ _
      | exact cantonref01_Parent.mono _ _
      | exact cantonref01_Right.mono _ _
      | exact cantonref01_Same.mono _ _ _
      | exact cantonref01_Split.mono _ _
      | exact path_In.mono _ _ _
      | exact path_Last.mono _ _
      | exact path_Numbered.mono _ _ _
      | exact path_Parent.mono _ _
      | exact LeO.none _
      | refine LeO.ite ?_ ?_
      | refine LeO.bind ?_ (fun _ => ?_)
theorem cantonlaw01_PathTells.mono : ∀ a0 a1 a2 k, LeO (cantonlaw01_PathTells.f k a0 a1 a2) (cantonlaw01_PathTells.f (k + 1) a0 a1 a2) := by
  intro a0 a1 a2 k
  obtain ⟨ih0, ih1⟩ := cantonlaw01_PathTells.mono_l k
  unfold cantonlaw01_PathTells.f
  repeat' first
      | (with_reducible exact ih0 _ _ _ _ _)
      | (with_reducible exact ih1 _ _ _ _ _)
      | (with_reducible exact cantonlaw01_head.mono _)
      | (with_reducible exact cantonref01_In.mono _ _ _)
      | (with_reducible exact cantonref01_Join.mono _ _ _)
      | (with_reducible exact cantonref01_Last.mono _ _)
      | (with_reducible exact cantonref01_Numbered.mono _ _ _)
      | (with_reducible exact cantonref01_Parent.mono _ _)
      | (with_reducible exact cantonref01_Right.mono _ _)
      | (with_reducible exact cantonref01_Same.mono _ _ _)
      | (with_reducible exact cantonref01_Split.mono _ _)
      | (with_reducible exact path_In.mono _ _ _)
      | (with_reducible exact path_Last.mono _ _)
      | (with_reducible exact path_Numbered.mono _ _ _)
      | (with_reducible exact path_Parent.mono _ _)
      | (with_reducible exact LeO.refl _)
      | (with_reducible exact LeO.none _)
      | (with_reducible refine LeO.ite ?_ ?_)
      | (with_reducible refine LeO.bind ?_ (fun _ => ?_))
      | exact ih0 _ _ _ _ _
      | exact ih1 _ _ _ _ _
      | exact cantonlaw01_head.mono _
      | exact cantonref01_In.mono _ _ _
      | exact cantonref01_Join.mono _ _ _
      | exact cantonref01_Last.mono _ _
      | exact cantonref01_Numbered.mono _ _ _
      | exact cantonref01_Parent.mono _ _
      | exact cantonref01_Right.mono _ _
      | exact cantonref01_Same.mono _ _ _
      | exact cantonref01_Split.mono _ _
      | exact path_In.mono _ _ _
      | exact path_Last.mono _ _
      | exact path_Numbered.mono _ _ _
      | exact path_Parent.mono _ _
      | exact LeO.none _
      | refine LeO.ite ?_ ?_
      | refine LeO.bind ?_ (fun _ => ?_)
set_option maxHeartbeats 8000000 in
set_option maxRecDepth 100000 in
theorem cantonlaw01_PathTells.calls (k : Nat) (a0 : ByteArray) (a1 : ByteArray) (a2 : Int) (r : Bool) (w : World) (h : cantonlaw01_PathTells.f k a0 a1 a2 = some r) (hT : Itoa.Tab w) :
    Calls Tryd.prog 3 #[.string a0, .string a1, .int .i64 a2] w fun e w' => e = .returned (.bool r) ∧ Below w.heap.size w w' := by
  have HT := Aside0.mk hT
  clear hT
  have HB := Aside0.mk (Below.refl w.heap.size w)
  have H : ((cantonlaw01_head.f k).bind fun t201 => (if (a0.size : Int) > 3000 then (cantonlaw01_PathTells.j0 k a0 a1 a2 t201 true) else (cantonlaw01_PathTells.j0 k a0 a1 a2 t201 (decide ((a1.size : Int) > 3000))))) = some r := h
  clear h
  replace H := Option.bind_eq_some_iff.mp H
  obtain ⟨t201, A40, H⟩ := H
  replace H : (if (a0.size : Int) > 3000 then (cantonlaw01_PathTells.j0 k a0 a1 a2 t201 true) else (cantonlaw01_PathTells.j0 k a0 a1 a2 t201 (decide ((a1.size : Int) > 3000)))) = some r := H
  have A4 := Aside0.mk A40
  clear A40
  have HC5 := Aside0.mk H
  clear H
  go_enter Tryd.func3, Tryd.ntmps3
  go_upto_region 2 with (first | ((with_reducible refine gate_callee (f := 9) rfl ?_); refine goesL_ (some 24) rfl rfl Tryd.func9 (by kernel_rfl) rfl #[] rfl (by (try simp only [List.map_toArray, List.map_cons, List.map_nil]); first | done | rfl | (simp only [List.length_drop, List.length_take]; rfl)) ?_; (with_reducible refine (cantonlaw01_head.calls k  t201 _ A4.out (Itoa.tab_step HT.out (by repeat (first | (with_reducible first | exact HB.out | apply below_alloc | apply pw_below_drewN | apply below_drew1) | exact HB.out)))).mono ?_); rintro e w6 ⟨rfl, hb⟩; refine ⟨_, rfl, ?_⟩; have n0_ := Aside0.mk (below_step (by repeat (first | (with_reducible first | exact HB.out | apply below_alloc | apply pw_below_drewN | apply below_drew1) | exact HB.out)) hb); clear HB; have HB := n0_; clear n0_; (try clear hb); (try clear hb2); (try clear hk); (try clear hi)))
  (try simp only [Act.put, List.setIfInBounds_toArray, List.set_cons_zero, List.set_cons_succ])
  go_cut [32] (fun v32 wc => ∃ (kq : Nat) (x32_4 : Bool), v32 = .bool x32_4 ∧ Aside0 (cantonlaw01_PathTells.j0 kq a0 a1 a2 t201 x32_4 = some r) ∧ Aside0 (kq ≤ k) ∧ Aside0 (Below w.heap.size w wc))
  case first =>
    have H := HC5.out
    clear HC5
    by_cases c7 : (a0.size : Int) > 3000
    · rw [if_pos c7] at H
      have c7b0 : decide (3000 < (a0.size : Int)) = true := decide_eq_true c7
      have c7b1 : decide (3000 < a0.size) = true := decide_eq_true (by omega)
      clear c7
      (first | rw [c7b0] | (simp only [i64_w, i32_w]; rw [c7b0]) | skip)
      have H' := Aside0.mk H
      clear H
      go_wp2
      go_meet
      case rel => exact ⟨_, (true), (by first | rfl | (simp; done) | (simp [*]; done)), H', ⟨by first | omega | exact Nat.le_refl _⟩, ⟨by repeat (first | (with_reducible first | exact HB.out | apply below_alloc | apply pw_below_drewN | apply below_drew1) | exact HB.out)⟩⟩
    · rw [if_neg c7] at H
      have c7b0 : decide (3000 < (a0.size : Int)) = false := decide_eq_false c7
      have c7b1 : decide (3000 < a0.size) = false := decide_eq_false (by omega)
      clear c7
      (first | rw [c7b0] | (simp only [i64_w, i32_w]; rw [c7b0]) | skip)
      have H' := Aside0.mk H
      clear H
      go_wp2
      go_meet
      case rel => exact ⟨_, (decide ((a1.size : Int) > 3000)), (by first | rfl | (simp; done) | (simp [*]; done)), H', ⟨by first | omega | exact Nat.le_refl _⟩, ⟨by repeat (first | (with_reducible first | exact HB.out | apply below_alloc | apply pw_below_drewN | apply below_drew1) | exact HB.out)⟩⟩
  case rest =>
    clear HC5
    try clear p2
    try clear c3
    try clear c7
    try clear c7b0
    try clear c7b1
    obtain ⟨kq, x32_4, rfl, HA, HJ4, HB⟩ := hcut
    cases kq with
    | zero => exact absurd HA.out (by simp [cantonlaw01_PathTells.j0])
    | succ kj4 =>
      have H := HA.out
      clear HA
      simp only [cantonlaw01_PathTells.j0] at H
      by_cases c8 : x32_4 = true
      · subst c8
        have H1 : (some t201) = some r := by rw [if_pos rfl] at H; exact H
        clear H
        have H := H1
        clear H1
        obtain rfl := Option.some.inj H
        go_wp2
        go_ret
        exact ⟨by first | rfl | (simp [errW_none, errW_some] <;> rfl) | (simp [*, errW_none, errW_some] <;> rfl), by repeat (first | (with_reducible first | exact HB.out | apply below_alloc | apply pw_below_drewN | apply below_drew1) | exact HB.out)⟩
      · replace c8 := Bool.eq_false_iff.mpr c8
        subst c8
        have H1 : ((path_Split.f a0).bind fun bt202 => ((cantonref01_Split.f kj4 a0).bind fun bt206 => ((path_Parent.f kj4 a0).bind fun bt210 => ((cantonref01_Parent.f kj4 a0).bind fun bt212 => ((path_Right.f a0).bind fun t214 => ((cantonref01_Right.f kj4 a0).bind fun t215 => (if (t214 != t215) = true then (cantonlaw01_PathTells.j1 kj4 a0 a1 a2 t201 true) else ((cantonref01_Same.f kj4 bt202.1 bt206.1).bind fun t216 => (if t216 = true then (if (bt202.2 != bt206.2) = true then (cantonlaw01_PathTells.j1 kj4 a0 a1 a2 t201 true) else (if bt210.1.toList = bt212.1.toList then (if (bt210.2 != bt212.2) = true then (cantonlaw01_PathTells.j1 kj4 a0 a1 a2 t201 true) else ((path_Last.f kj4 a0).bind fun t217 => ((cantonref01_Last.f kj4 a0).bind fun t218 => (cantonlaw01_PathTells.j1 kj4 a0 a1 a2 t201 (t217.toList != t218.toList))))) else (cantonlaw01_PathTells.j1 kj4 a0 a1 a2 t201 true))) else (cantonlaw01_PathTells.j1 kj4 a0 a1 a2 t201 true)))))))))) = some r := by rw [if_neg (show ¬ (false = true) by decide)] at H; exact H
        clear H
        have H := H1
        clear H1
        replace H := Option.bind_eq_some_iff.mp H
        obtain ⟨⟨t202, t203⟩, A90, H⟩ := H
        replace H : ((cantonref01_Split.f kj4 a0).bind fun bt206 => ((path_Parent.f kj4 a0).bind fun bt210 => ((cantonref01_Parent.f kj4 a0).bind fun bt212 => ((path_Right.f a0).bind fun t214 => ((cantonref01_Right.f kj4 a0).bind fun t215 => (if (t214 != t215) = true then (cantonlaw01_PathTells.j1 kj4 a0 a1 a2 t201 true) else ((cantonref01_Same.f kj4 t202 bt206.1).bind fun t216 => (if t216 = true then (if (t203 != bt206.2) = true then (cantonlaw01_PathTells.j1 kj4 a0 a1 a2 t201 true) else (if bt210.1.toList = bt212.1.toList then (if (bt210.2 != bt212.2) = true then (cantonlaw01_PathTells.j1 kj4 a0 a1 a2 t201 true) else ((path_Last.f kj4 a0).bind fun t217 => ((cantonref01_Last.f kj4 a0).bind fun t218 => (cantonlaw01_PathTells.j1 kj4 a0 a1 a2 t201 (t217.toList != t218.toList))))) else (cantonlaw01_PathTells.j1 kj4 a0 a1 a2 t201 true))) else (cantonlaw01_PathTells.j1 kj4 a0 a1 a2 t201 true))))))))) = some r := H
        have A9 := Aside0.mk A90
        clear A90
        replace H := Option.bind_eq_some_iff.mp H
        obtain ⟨⟨t206, t207⟩, A100, H⟩ := H
        replace H : ((path_Parent.f kj4 a0).bind fun bt210 => ((cantonref01_Parent.f kj4 a0).bind fun bt212 => ((path_Right.f a0).bind fun t214 => ((cantonref01_Right.f kj4 a0).bind fun t215 => (if (t214 != t215) = true then (cantonlaw01_PathTells.j1 kj4 a0 a1 a2 t201 true) else ((cantonref01_Same.f kj4 t202 t206).bind fun t216 => (if t216 = true then (if (t203 != t207) = true then (cantonlaw01_PathTells.j1 kj4 a0 a1 a2 t201 true) else (if bt210.1.toList = bt212.1.toList then (if (bt210.2 != bt212.2) = true then (cantonlaw01_PathTells.j1 kj4 a0 a1 a2 t201 true) else ((path_Last.f kj4 a0).bind fun t217 => ((cantonref01_Last.f kj4 a0).bind fun t218 => (cantonlaw01_PathTells.j1 kj4 a0 a1 a2 t201 (t217.toList != t218.toList))))) else (cantonlaw01_PathTells.j1 kj4 a0 a1 a2 t201 true))) else (cantonlaw01_PathTells.j1 kj4 a0 a1 a2 t201 true)))))))) = some r := H
        have A10 := Aside0.mk A100
        clear A100
        replace H := Option.bind_eq_some_iff.mp H
        obtain ⟨⟨t210, t211⟩, A110, H⟩ := H
        replace H : ((cantonref01_Parent.f kj4 a0).bind fun bt212 => ((path_Right.f a0).bind fun t214 => ((cantonref01_Right.f kj4 a0).bind fun t215 => (if (t214 != t215) = true then (cantonlaw01_PathTells.j1 kj4 a0 a1 a2 t201 true) else ((cantonref01_Same.f kj4 t202 t206).bind fun t216 => (if t216 = true then (if (t203 != t207) = true then (cantonlaw01_PathTells.j1 kj4 a0 a1 a2 t201 true) else (if t210.toList = bt212.1.toList then (if (t211 != bt212.2) = true then (cantonlaw01_PathTells.j1 kj4 a0 a1 a2 t201 true) else ((path_Last.f kj4 a0).bind fun t217 => ((cantonref01_Last.f kj4 a0).bind fun t218 => (cantonlaw01_PathTells.j1 kj4 a0 a1 a2 t201 (t217.toList != t218.toList))))) else (cantonlaw01_PathTells.j1 kj4 a0 a1 a2 t201 true))) else (cantonlaw01_PathTells.j1 kj4 a0 a1 a2 t201 true))))))) = some r := H
        have A11 := Aside0.mk A110
        clear A110
        replace H := Option.bind_eq_some_iff.mp H
        obtain ⟨⟨t212, t213⟩, A120, H⟩ := H
        replace H : ((path_Right.f a0).bind fun t214 => ((cantonref01_Right.f kj4 a0).bind fun t215 => (if (t214 != t215) = true then (cantonlaw01_PathTells.j1 kj4 a0 a1 a2 t201 true) else ((cantonref01_Same.f kj4 t202 t206).bind fun t216 => (if t216 = true then (if (t203 != t207) = true then (cantonlaw01_PathTells.j1 kj4 a0 a1 a2 t201 true) else (if t210.toList = t212.toList then (if (t211 != t213) = true then (cantonlaw01_PathTells.j1 kj4 a0 a1 a2 t201 true) else ((path_Last.f kj4 a0).bind fun t217 => ((cantonref01_Last.f kj4 a0).bind fun t218 => (cantonlaw01_PathTells.j1 kj4 a0 a1 a2 t201 (t217.toList != t218.toList))))) else (cantonlaw01_PathTells.j1 kj4 a0 a1 a2 t201 true))) else (cantonlaw01_PathTells.j1 kj4 a0 a1 a2 t201 true)))))) = some r := H
        have A12 := Aside0.mk A120
        clear A120
        have HC13 := Aside0.mk H
        clear H
        go_upto_region 8 with (first | ((with_reducible refine gate_callee (f := 10) rfl ?_); refine goesL_ (some 36) rfl rfl Tryd.func10 (by kernel_rfl) rfl #[.string a0] rfl (by (try simp only [List.map_toArray, List.map_cons, List.map_nil]); first | done | rfl | (simp only [List.length_drop, List.length_take]; rfl)) ?_; (with_reducible refine (path_Split.calls a0 t202 t203 _ A9.out).mono ?_); rintro e w14 ⟨v204, rfl, ho0, hb⟩; refine ⟨_, rfl, ?_⟩; have n0_ := Aside0.mk (Kd.R_lower ho0 (below_size (by repeat (first | (with_reducible first | exact HB.out | apply below_alloc | apply pw_below_drewN | apply below_drew1) | exact HB.out)))); have n1_ := Aside0.mk (below_step (by repeat (first | (with_reducible first | exact HB.out | apply below_alloc | apply pw_below_drewN | apply below_drew1) | exact HB.out)) hb); clear HB; have HO205 := n0_; have HB := n1_; clear n0_ n1_; (try clear hb); (try clear hb2); (try clear hk); (try clear hi); (try clear ho0)) | ((with_reducible refine gate_callee (f := 11) rfl ?_); refine goesL_ (some 41) rfl rfl Tryd.func11 (by kernel_rfl) rfl #[.string a0] rfl (by (try simp only [List.map_toArray, List.map_cons, List.map_nil]); first | done | rfl | (simp only [List.length_drop, List.length_take]; rfl)) ?_; (with_reducible refine (cantonref01_Split.calls kj4 a0 t206 t207 _ A10.out).mono ?_); rintro e w15 ⟨v208, rfl, ho0, hb⟩; refine ⟨_, rfl, ?_⟩; have n0_ := Aside0.mk (Kd.R_elder' (by (with_reducible repeat (first | apply Kd.R_alloc | apply Kd.R_drewN | apply Kd.R_drew)); exact HO205.out) (Kd.R_base ho0) hb); have n1_ := Aside0.mk (Kd.R_lower (Kd.R_new' ho0 (Kd.R_lt (by (with_reducible repeat (first | apply Kd.R_alloc | apply Kd.R_drewN | apply Kd.R_drew)); exact HO205.out))) (below_size (by repeat (first | (with_reducible first | exact HB.out | apply below_alloc | apply pw_below_drewN | apply below_drew1) | exact HB.out)))); have n2_ := Aside0.mk (below_step (by repeat (first | (with_reducible first | exact HB.out | apply below_alloc | apply pw_below_drewN | apply below_drew1) | exact HB.out)) hb); clear HO205; clear HB; have HO205 := n0_; have HO209 := n1_; have HB := n2_; clear n0_ n1_ n2_; (try clear hb); (try clear hb2); (try clear hk); (try clear hi); (try clear ho0)) | ((with_reducible refine gate_callee (f := 12) rfl ?_); refine goesL_ (some 46) rfl rfl Tryd.func12 (by kernel_rfl) rfl #[.string a0] rfl (by (try simp only [List.map_toArray, List.map_cons, List.map_nil]); first | done | rfl | (simp only [List.length_drop, List.length_take]; rfl)) ?_; (with_reducible refine (path_Parent.calls kj4 a0 t210 t211 _ A11.out).mono ?_); rintro e w16 ⟨rfl, hb⟩; refine ⟨_, rfl, ?_⟩; have n0_ := Aside0.mk (Kd.R_below (by (with_reducible repeat (first | apply Kd.R_alloc | apply Kd.R_drewN | apply Kd.R_drew)); exact HO205.out) hb); have n1_ := Aside0.mk (Kd.R_below (by (with_reducible repeat (first | apply Kd.R_alloc | apply Kd.R_drewN | apply Kd.R_drew)); exact HO209.out) hb); have n2_ := Aside0.mk (below_step (by repeat (first | (with_reducible first | exact HB.out | apply below_alloc | apply pw_below_drewN | apply below_drew1) | exact HB.out)) hb); clear HO205; clear HO209; clear HB; have HO205 := n0_; have HO209 := n1_; have HB := n2_; clear n0_ n1_ n2_; (try clear hb); (try clear hb2); (try clear hk); (try clear hi)) | ((with_reducible refine gate_callee (f := 13) rfl ?_); refine goesL_ (some 51) rfl rfl Tryd.func13 (by kernel_rfl) rfl #[.string a0] rfl (by (try simp only [List.map_toArray, List.map_cons, List.map_nil]); first | done | rfl | (simp only [List.length_drop, List.length_take]; rfl)) ?_; (with_reducible refine (cantonref01_Parent.calls kj4 a0 t212 t213 _ A12.out).mono ?_); rintro e w17 ⟨rfl, hb⟩; refine ⟨_, rfl, ?_⟩; have n0_ := Aside0.mk (Kd.R_below (by (with_reducible repeat (first | apply Kd.R_alloc | apply Kd.R_drewN | apply Kd.R_drew)); exact HO205.out) hb); have n1_ := Aside0.mk (Kd.R_below (by (with_reducible repeat (first | apply Kd.R_alloc | apply Kd.R_drewN | apply Kd.R_drew)); exact HO209.out) hb); have n2_ := Aside0.mk (below_step (by repeat (first | (with_reducible first | exact HB.out | apply below_alloc | apply pw_below_drewN | apply below_drew1) | exact HB.out)) hb); clear HO205; clear HO209; clear HB; have HO205 := n0_; have HO209 := n1_; have HB := n2_; clear n0_ n1_ n2_; (try clear hb); (try clear hb2); (try clear hk); (try clear hi)))
        (try simp only [Act.put, List.setIfInBounds_toArray, List.set_cons_zero, List.set_cons_succ])
        go_cut [86] (fun v86 wc => ∃ (kq : Nat) (x86_12 : Bool), v86 = .bool x86_12 ∧ Aside0 (cantonlaw01_PathTells.j1 kq a0 a1 a2 t201 x86_12 = some r) ∧ Aside0 (kq ≤ kj4) ∧ Aside0 (Below w.heap.size w wc))
        case first =>
          have H := HC13.out
          clear HC13
          replace H := Option.bind_eq_some_iff.mp H
          obtain ⟨t214, A180, H⟩ := H
          replace H : ((cantonref01_Right.f kj4 a0).bind fun t215 => (if (t214 != t215) = true then (cantonlaw01_PathTells.j1 kj4 a0 a1 a2 t201 true) else ((cantonref01_Same.f kj4 t202 t206).bind fun t216 => (if t216 = true then (if (t203 != t207) = true then (cantonlaw01_PathTells.j1 kj4 a0 a1 a2 t201 true) else (if t210.toList = t212.toList then (if (t211 != t213) = true then (cantonlaw01_PathTells.j1 kj4 a0 a1 a2 t201 true) else ((path_Last.f kj4 a0).bind fun t217 => ((cantonref01_Last.f kj4 a0).bind fun t218 => (cantonlaw01_PathTells.j1 kj4 a0 a1 a2 t201 (t217.toList != t218.toList))))) else (cantonlaw01_PathTells.j1 kj4 a0 a1 a2 t201 true))) else (cantonlaw01_PathTells.j1 kj4 a0 a1 a2 t201 true))))) = some r := H
          have A18 := Aside0.mk A180
          clear A180
          replace H := Option.bind_eq_some_iff.mp H
          obtain ⟨t215, A190, H⟩ := H
          replace H : (if (t214 != t215) = true then (cantonlaw01_PathTells.j1 kj4 a0 a1 a2 t201 true) else ((cantonref01_Same.f kj4 t202 t206).bind fun t216 => (if t216 = true then (if (t203 != t207) = true then (cantonlaw01_PathTells.j1 kj4 a0 a1 a2 t201 true) else (if t210.toList = t212.toList then (if (t211 != t213) = true then (cantonlaw01_PathTells.j1 kj4 a0 a1 a2 t201 true) else ((path_Last.f kj4 a0).bind fun t217 => ((cantonref01_Last.f kj4 a0).bind fun t218 => (cantonlaw01_PathTells.j1 kj4 a0 a1 a2 t201 (t217.toList != t218.toList))))) else (cantonlaw01_PathTells.j1 kj4 a0 a1 a2 t201 true))) else (cantonlaw01_PathTells.j1 kj4 a0 a1 a2 t201 true)))) = some r := H
          have A19 := Aside0.mk A190
          clear A190
          by_cases c20 : (t214 != t215) = true
          · rw [if_pos c20] at H
            have c20b0 : (t214 != t215) = true := c20
            (try (have c20b1 : decide (t214 = t215) = false := by simpa using c20))
            (try (have c20b2 : (t214 == t215) = false := by simpa using c20))
            (try (have c20b3 : ¬ (t214 = t215) := by simpa using c20))
            clear c20
            (first | rw [c20b0] | (simp only [i64_w, i32_w]; rw [c20b0]) | skip)
            have H' := Aside0.mk H
            clear H
            go_wp2_with (first | ((with_reducible refine gate_callee (f := 14) rfl ?_); refine goesL_ (some 55) rfl rfl Tryd.func14 (by kernel_rfl) rfl #[.string a0] rfl (by (try simp only [List.map_toArray, List.map_cons, List.map_nil]); first | done | rfl | (simp only [List.length_drop, List.length_take]; rfl)) ?_; (with_reducible refine (path_Right.calls a0 t214 _ A18.out).mono ?_); rintro e w21 ⟨rfl, hb⟩; refine ⟨_, rfl, ?_⟩; have n0_ := Aside0.mk (Kd.R_below (by (with_reducible repeat (first | apply Kd.R_alloc | apply Kd.R_drewN | apply Kd.R_drew)); exact HO205.out) hb); have n1_ := Aside0.mk (Kd.R_below (by (with_reducible repeat (first | apply Kd.R_alloc | apply Kd.R_drewN | apply Kd.R_drew)); exact HO209.out) hb); have n2_ := Aside0.mk (below_step (by repeat (first | (with_reducible first | exact HB.out | apply below_alloc | apply pw_below_drewN | apply below_drew1) | exact HB.out)) hb); clear HO205; clear HO209; clear HB; have HO205 := n0_; have HO209 := n1_; have HB := n2_; clear n0_ n1_ n2_; (try clear hb); (try clear hb2); (try clear hk); (try clear hi)) | ((with_reducible refine gate_callee (f := 15) rfl ?_); refine goesL_ (some 57) rfl rfl Tryd.func15 (by kernel_rfl) rfl #[.string a0] rfl (by (try simp only [List.map_toArray, List.map_cons, List.map_nil]); first | done | rfl | (simp only [List.length_drop, List.length_take]; rfl)) ?_; (with_reducible refine (cantonref01_Right.calls kj4 a0 t215 _ A19.out).mono ?_); rintro e w22 ⟨rfl, hb⟩; refine ⟨_, rfl, ?_⟩; have n0_ := Aside0.mk (Kd.R_below (by (with_reducible repeat (first | apply Kd.R_alloc | apply Kd.R_drewN | apply Kd.R_drew)); exact HO205.out) hb); have n1_ := Aside0.mk (Kd.R_below (by (with_reducible repeat (first | apply Kd.R_alloc | apply Kd.R_drewN | apply Kd.R_drew)); exact HO209.out) hb); have n2_ := Aside0.mk (below_step (by repeat (first | (with_reducible first | exact HB.out | apply below_alloc | apply pw_below_drewN | apply below_drew1) | exact HB.out)) hb); clear HO205; clear HO209; clear HB; have HO205 := n0_; have HO209 := n1_; have HB := n2_; clear n0_ n1_ n2_; (try clear hb); (try clear hb2); (try clear hk); (try clear hi)))
            go_meet
            case rel => exact ⟨_, (true), (by first | rfl | (simp; done) | (simp [*]; done)), H', ⟨by have := HJ4.out; first | omega | exact Nat.le_refl _⟩, ⟨by repeat (first | (with_reducible first | exact HB.out | apply below_alloc | apply pw_below_drewN | apply below_drew1) | exact HB.out)⟩⟩
          · rw [if_neg c20] at H
            have c20b0 : (t214 != t215) = false := by simpa using c20
            (try (have c20b1 : decide (t214 = t215) = true := by simpa using c20))
            (try (have c20b2 : (t214 == t215) = true := by simpa using c20))
            clear c20
            (first | rw [c20b0] | (simp only [i64_w, i32_w]; rw [c20b0]) | skip)
            replace H := Option.bind_eq_some_iff.mp H
            obtain ⟨t216, A230, H⟩ := H
            replace H : (if t216 = true then (if (t203 != t207) = true then (cantonlaw01_PathTells.j1 kj4 a0 a1 a2 t201 true) else (if t210.toList = t212.toList then (if (t211 != t213) = true then (cantonlaw01_PathTells.j1 kj4 a0 a1 a2 t201 true) else ((path_Last.f kj4 a0).bind fun t217 => ((cantonref01_Last.f kj4 a0).bind fun t218 => (cantonlaw01_PathTells.j1 kj4 a0 a1 a2 t201 (t217.toList != t218.toList))))) else (cantonlaw01_PathTells.j1 kj4 a0 a1 a2 t201 true))) else (cantonlaw01_PathTells.j1 kj4 a0 a1 a2 t201 true)) = some r := H
            have A23 := Aside0.mk A230
            clear A230
            by_cases c24 : t216 = true
            · subst c24
              have H1 : (if (t203 != t207) = true then (cantonlaw01_PathTells.j1 kj4 a0 a1 a2 t201 true) else (if t210.toList = t212.toList then (if (t211 != t213) = true then (cantonlaw01_PathTells.j1 kj4 a0 a1 a2 t201 true) else ((path_Last.f kj4 a0).bind fun t217 => ((cantonref01_Last.f kj4 a0).bind fun t218 => (cantonlaw01_PathTells.j1 kj4 a0 a1 a2 t201 (t217.toList != t218.toList))))) else (cantonlaw01_PathTells.j1 kj4 a0 a1 a2 t201 true))) = some r := by rw [if_pos rfl] at H; exact H
              clear H
              have H := H1
              clear H1
              by_cases c25 : (t203 != t207) = true
              · rw [if_pos c25] at H
                have c25b0 : (t203 != t207) = true := c25
                (try (have c25b1 : decide (t203 = t207) = false := by simpa using c25))
                (try (have c25b2 : (t203 == t207) = false := by simpa using c25))
                (try (have c25b3 : ¬ (t203 = t207) := by simpa using c25))
                clear c25
                have H' := Aside0.mk H
                clear H
                go_wp2_with (first | ((with_reducible refine gate_callee (f := 14) rfl ?_); refine goesL_ (some 55) rfl rfl Tryd.func14 (by kernel_rfl) rfl #[.string a0] rfl (by (try simp only [List.map_toArray, List.map_cons, List.map_nil]); first | done | rfl | (simp only [List.length_drop, List.length_take]; rfl)) ?_; (with_reducible refine (path_Right.calls a0 t214 _ A18.out).mono ?_); rintro e w26 ⟨rfl, hb⟩; refine ⟨_, rfl, ?_⟩; have n0_ := Aside0.mk (Kd.R_below (by (with_reducible repeat (first | apply Kd.R_alloc | apply Kd.R_drewN | apply Kd.R_drew)); exact HO205.out) hb); have n1_ := Aside0.mk (Kd.R_below (by (with_reducible repeat (first | apply Kd.R_alloc | apply Kd.R_drewN | apply Kd.R_drew)); exact HO209.out) hb); have n2_ := Aside0.mk (below_step (by repeat (first | (with_reducible first | exact HB.out | apply below_alloc | apply pw_below_drewN | apply below_drew1) | exact HB.out)) hb); clear HO205; clear HO209; clear HB; have HO205 := n0_; have HO209 := n1_; have HB := n2_; clear n0_ n1_ n2_; (try clear hb); (try clear hb2); (try clear hk); (try clear hi)) | ((with_reducible refine gate_callee (f := 15) rfl ?_); refine goesL_ (some 57) rfl rfl Tryd.func15 (by kernel_rfl) rfl #[.string a0] rfl (by (try simp only [List.map_toArray, List.map_cons, List.map_nil]); first | done | rfl | (simp only [List.length_drop, List.length_take]; rfl)) ?_; (with_reducible refine (cantonref01_Right.calls kj4 a0 t215 _ A19.out).mono ?_); rintro e w27 ⟨rfl, hb⟩; refine ⟨_, rfl, ?_⟩; have n0_ := Aside0.mk (Kd.R_below (by (with_reducible repeat (first | apply Kd.R_alloc | apply Kd.R_drewN | apply Kd.R_drew)); exact HO205.out) hb); have n1_ := Aside0.mk (Kd.R_below (by (with_reducible repeat (first | apply Kd.R_alloc | apply Kd.R_drewN | apply Kd.R_drew)); exact HO209.out) hb); have n2_ := Aside0.mk (below_step (by repeat (first | (with_reducible first | exact HB.out | apply below_alloc | apply pw_below_drewN | apply below_drew1) | exact HB.out)) hb); clear HO205; clear HO209; clear HB; have HO205 := n0_; have HO209 := n1_; have HB := n2_; clear n0_ n1_ n2_; (try clear hb); (try clear hb2); (try clear hk); (try clear hi); obtain ⟨Ao28, co28, eo28⟩ := Kd.R_slice HO205.out; subst eo28; obtain ⟨Ao29, co29, eo29⟩ := Kd.R_slice HO209.out; subst eo29) | (go_at_call 16; (with_reducible refine (cantonref01_Same.calls kj4 _ _ t202 _ _ t206 true _ ?side1 ?side2 ?side3 ?side4 A23.out).mono ?_); (case side1 => repeat (first | exact (Kd.R_reads' HO205.out).2.2 | (with_reducible refine Kd.C_alloc ?_ _) | (with_reducible refine Kd.C_drewN ?_ _) | (with_reducible refine Kd.C_drew ?_))); (case side2 => exact (Kd.R_reads' HO205.out).2.1); (case side3 => repeat (first | exact (Kd.R_reads' HO209.out).2.2 | (with_reducible refine Kd.C_alloc ?_ _) | (with_reducible refine Kd.C_drewN ?_ _) | (with_reducible refine Kd.C_drew ?_))); (case side4 => exact (Kd.R_reads' HO209.out).2.1); rintro e w' ⟨rfl, ⟨nd, rfl⟩⟩))
                go_meet
                case rel => exact ⟨_, (true), (by first | rfl | (simp; done) | (simp [*]; done)), H', ⟨by have := HJ4.out; first | omega | exact Nat.le_refl _⟩, ⟨by repeat (first | (with_reducible first | exact HB.out | apply below_alloc | apply pw_below_drewN | apply below_drew1) | exact HB.out)⟩⟩
              · rw [if_neg c25] at H
                have c25b0 : (t203 != t207) = false := by simpa using c25
                (try (have c25b1 : decide (t203 = t207) = true := by simpa using c25))
                (try (have c25b2 : (t203 == t207) = true := by simpa using c25))
                clear c25
                by_cases c30 : t210.toList = t212.toList
                · rw [if_pos c30] at H
                  have c30b0 : (t210.toList == t212.toList) = true := beq_iff_eq.mpr c30
                  have c30b1 : (t210.toList != t212.toList) = false := bne_eq_false_iff_eq.mpr c30
                  clear c30
                  by_cases c31 : (t211 != t213) = true
                  · rw [if_pos c31] at H
                    have c31b0 : (t211 != t213) = true := c31
                    (try (have c31b1 : decide (t211 = t213) = false := by simpa using c31))
                    (try (have c31b2 : (t211 == t213) = false := by simpa using c31))
                    (try (have c31b3 : ¬ (t211 = t213) := by simpa using c31))
                    clear c31
                    have H' := Aside0.mk H
                    clear H
                    go_wp2_with (first | ((with_reducible refine gate_callee (f := 14) rfl ?_); refine goesL_ (some 55) rfl rfl Tryd.func14 (by kernel_rfl) rfl #[.string a0] rfl (by (try simp only [List.map_toArray, List.map_cons, List.map_nil]); first | done | rfl | (simp only [List.length_drop, List.length_take]; rfl)) ?_; (with_reducible refine (path_Right.calls a0 t214 _ A18.out).mono ?_); rintro e w32 ⟨rfl, hb⟩; refine ⟨_, rfl, ?_⟩; have n0_ := Aside0.mk (Kd.R_below (by (with_reducible repeat (first | apply Kd.R_alloc | apply Kd.R_drewN | apply Kd.R_drew)); exact HO205.out) hb); have n1_ := Aside0.mk (Kd.R_below (by (with_reducible repeat (first | apply Kd.R_alloc | apply Kd.R_drewN | apply Kd.R_drew)); exact HO209.out) hb); have n2_ := Aside0.mk (below_step (by repeat (first | (with_reducible first | exact HB.out | apply below_alloc | apply pw_below_drewN | apply below_drew1) | exact HB.out)) hb); clear HO205; clear HO209; clear HB; have HO205 := n0_; have HO209 := n1_; have HB := n2_; clear n0_ n1_ n2_; (try clear hb); (try clear hb2); (try clear hk); (try clear hi)) | ((with_reducible refine gate_callee (f := 15) rfl ?_); refine goesL_ (some 57) rfl rfl Tryd.func15 (by kernel_rfl) rfl #[.string a0] rfl (by (try simp only [List.map_toArray, List.map_cons, List.map_nil]); first | done | rfl | (simp only [List.length_drop, List.length_take]; rfl)) ?_; (with_reducible refine (cantonref01_Right.calls kj4 a0 t215 _ A19.out).mono ?_); rintro e w33 ⟨rfl, hb⟩; refine ⟨_, rfl, ?_⟩; have n0_ := Aside0.mk (Kd.R_below (by (with_reducible repeat (first | apply Kd.R_alloc | apply Kd.R_drewN | apply Kd.R_drew)); exact HO205.out) hb); have n1_ := Aside0.mk (Kd.R_below (by (with_reducible repeat (first | apply Kd.R_alloc | apply Kd.R_drewN | apply Kd.R_drew)); exact HO209.out) hb); have n2_ := Aside0.mk (below_step (by repeat (first | (with_reducible first | exact HB.out | apply below_alloc | apply pw_below_drewN | apply below_drew1) | exact HB.out)) hb); clear HO205; clear HO209; clear HB; have HO205 := n0_; have HO209 := n1_; have HB := n2_; clear n0_ n1_ n2_; (try clear hb); (try clear hb2); (try clear hk); (try clear hi); obtain ⟨Ao34, co34, eo34⟩ := Kd.R_slice HO205.out; subst eo34; obtain ⟨Ao35, co35, eo35⟩ := Kd.R_slice HO209.out; subst eo35) | (go_at_call 16; (with_reducible refine (cantonref01_Same.calls kj4 _ _ t202 _ _ t206 true _ ?side1 ?side2 ?side3 ?side4 A23.out).mono ?_); (case side1 => repeat (first | exact (Kd.R_reads' HO205.out).2.2 | (with_reducible refine Kd.C_alloc ?_ _) | (with_reducible refine Kd.C_drewN ?_ _) | (with_reducible refine Kd.C_drew ?_))); (case side2 => exact (Kd.R_reads' HO205.out).2.1); (case side3 => repeat (first | exact (Kd.R_reads' HO209.out).2.2 | (with_reducible refine Kd.C_alloc ?_ _) | (with_reducible refine Kd.C_drewN ?_ _) | (with_reducible refine Kd.C_drew ?_))); (case side4 => exact (Kd.R_reads' HO209.out).2.1); rintro e w' ⟨rfl, ⟨nd, rfl⟩⟩))
                    go_meet
                    case rel => exact ⟨_, (true), (by first | rfl | (simp; done) | (simp [*]; done)), H', ⟨by have := HJ4.out; first | omega | exact Nat.le_refl _⟩, ⟨by repeat (first | (with_reducible first | exact HB.out | apply below_alloc | apply pw_below_drewN | apply below_drew1) | exact HB.out)⟩⟩
                  · rw [if_neg c31] at H
                    have c31b0 : (t211 != t213) = false := by simpa using c31
                    (try (have c31b1 : decide (t211 = t213) = true := by simpa using c31))
                    (try (have c31b2 : (t211 == t213) = true := by simpa using c31))
                    clear c31
                    replace H := Option.bind_eq_some_iff.mp H
                    obtain ⟨t217, A360, H⟩ := H
                    replace H : ((cantonref01_Last.f kj4 a0).bind fun t218 => (cantonlaw01_PathTells.j1 kj4 a0 a1 a2 t201 (t217.toList != t218.toList))) = some r := H
                    have A36 := Aside0.mk A360
                    clear A360
                    replace H := Option.bind_eq_some_iff.mp H
                    obtain ⟨t218, A370, H⟩ := H
                    replace H : (cantonlaw01_PathTells.j1 kj4 a0 a1 a2 t201 (t217.toList != t218.toList)) = some r := H
                    have A37 := Aside0.mk A370
                    clear A370
                    have H' := Aside0.mk H
                    clear H
                    go_wp2_with (first | ((with_reducible refine gate_callee (f := 14) rfl ?_); refine goesL_ (some 55) rfl rfl Tryd.func14 (by kernel_rfl) rfl #[.string a0] rfl (by (try simp only [List.map_toArray, List.map_cons, List.map_nil]); first | done | rfl | (simp only [List.length_drop, List.length_take]; rfl)) ?_; (with_reducible refine (path_Right.calls a0 t214 _ A18.out).mono ?_); rintro e w38 ⟨rfl, hb⟩; refine ⟨_, rfl, ?_⟩; have n0_ := Aside0.mk (Kd.R_below (by (with_reducible repeat (first | apply Kd.R_alloc | apply Kd.R_drewN | apply Kd.R_drew)); exact HO205.out) hb); have n1_ := Aside0.mk (Kd.R_below (by (with_reducible repeat (first | apply Kd.R_alloc | apply Kd.R_drewN | apply Kd.R_drew)); exact HO209.out) hb); have n2_ := Aside0.mk (below_step (by repeat (first | (with_reducible first | exact HB.out | apply below_alloc | apply pw_below_drewN | apply below_drew1) | exact HB.out)) hb); clear HO205; clear HO209; clear HB; have HO205 := n0_; have HO209 := n1_; have HB := n2_; clear n0_ n1_ n2_; (try clear hb); (try clear hb2); (try clear hk); (try clear hi)) | ((with_reducible refine gate_callee (f := 15) rfl ?_); refine goesL_ (some 57) rfl rfl Tryd.func15 (by kernel_rfl) rfl #[.string a0] rfl (by (try simp only [List.map_toArray, List.map_cons, List.map_nil]); first | done | rfl | (simp only [List.length_drop, List.length_take]; rfl)) ?_; (with_reducible refine (cantonref01_Right.calls kj4 a0 t215 _ A19.out).mono ?_); rintro e w39 ⟨rfl, hb⟩; refine ⟨_, rfl, ?_⟩; have n0_ := Aside0.mk (Kd.R_below (by (with_reducible repeat (first | apply Kd.R_alloc | apply Kd.R_drewN | apply Kd.R_drew)); exact HO205.out) hb); have n1_ := Aside0.mk (Kd.R_below (by (with_reducible repeat (first | apply Kd.R_alloc | apply Kd.R_drewN | apply Kd.R_drew)); exact HO209.out) hb); have n2_ := Aside0.mk (below_step (by repeat (first | (with_reducible first | exact HB.out | apply below_alloc | apply pw_below_drewN | apply below_drew1) | exact HB.out)) hb); clear HO205; clear HO209; clear HB; have HO205 := n0_; have HO209 := n1_; have HB := n2_; clear n0_ n1_ n2_; (try clear hb); (try clear hb2); (try clear hk); (try clear hi); obtain ⟨Ao40, co40, eo40⟩ := Kd.R_slice HO205.out; subst eo40; obtain ⟨Ao41, co41, eo41⟩ := Kd.R_slice HO209.out; subst eo41) | (go_at_call 16; (with_reducible refine (cantonref01_Same.calls kj4 _ _ t202 _ _ t206 true _ ?side1 ?side2 ?side3 ?side4 A23.out).mono ?_); (case side1 => repeat (first | exact (Kd.R_reads' HO205.out).2.2 | (with_reducible refine Kd.C_alloc ?_ _) | (with_reducible refine Kd.C_drewN ?_ _) | (with_reducible refine Kd.C_drew ?_))); (case side2 => exact (Kd.R_reads' HO205.out).2.1); (case side3 => repeat (first | exact (Kd.R_reads' HO209.out).2.2 | (with_reducible refine Kd.C_alloc ?_ _) | (with_reducible refine Kd.C_drewN ?_ _) | (with_reducible refine Kd.C_drew ?_))); (case side4 => exact (Kd.R_reads' HO209.out).2.1); rintro e w' ⟨rfl, ⟨nd, rfl⟩⟩) | (go_at_call 17; (with_reducible refine (path_Last.calls kj4 a0 t217 _ A36.out).mono ?_); rintro e w42 ⟨rfl, hb⟩; have n0_ := Aside0.mk (Kd.R_below (by (with_reducible repeat (first | apply Kd.R_alloc | apply Kd.R_drewN | apply Kd.R_drew)); exact HO205.out) hb); have n1_ := Aside0.mk (Kd.R_below (by (with_reducible repeat (first | apply Kd.R_alloc | apply Kd.R_drewN | apply Kd.R_drew)); exact HO209.out) hb); have n2_ := Aside0.mk (below_step (by repeat (first | (with_reducible first | exact HB.out | apply below_alloc | apply pw_below_drewN | apply below_drew1) | exact HB.out)) hb); clear HO205; clear HO209; clear HB; have HO205 := n0_; have HO209 := n1_; have HB := n2_; clear n0_ n1_ n2_; (try clear hb); (try clear hb2); (try clear hk); (try clear hi)) | (go_at_call 18; (with_reducible refine (cantonref01_Last.calls kj4 a0 t218 _ A37.out).mono ?_); rintro e w43 ⟨rfl, hb⟩; have n0_ := Aside0.mk (Kd.R_below (by (with_reducible repeat (first | apply Kd.R_alloc | apply Kd.R_drewN | apply Kd.R_drew)); exact HO205.out) hb); have n1_ := Aside0.mk (Kd.R_below (by (with_reducible repeat (first | apply Kd.R_alloc | apply Kd.R_drewN | apply Kd.R_drew)); exact HO209.out) hb); have n2_ := Aside0.mk (below_step (by repeat (first | (with_reducible first | exact HB.out | apply below_alloc | apply pw_below_drewN | apply below_drew1) | exact HB.out)) hb); clear HO205; clear HO209; clear HB; have HO205 := n0_; have HO209 := n1_; have HB := n2_; clear n0_ n1_ n2_; (try clear hb); (try clear hb2); (try clear hk); (try clear hi)))
                    go_meet
                    case rel => exact ⟨_, ((t217.toList != t218.toList)), (by first | rfl | (simp; done) | (simp [*]; done)), H', ⟨by have := HJ4.out; first | omega | exact Nat.le_refl _⟩, ⟨by repeat (first | (with_reducible first | exact HB.out | apply below_alloc | apply pw_below_drewN | apply below_drew1) | exact HB.out)⟩⟩
                · rw [if_neg c30] at H
                  have c30b0 : (t210.toList == t212.toList) = false := beq_eq_false_iff_ne.mpr c30
                  have c30b1 : (t210.toList != t212.toList) = true := bne_iff_ne.mpr c30
                  have H' := Aside0.mk H
                  clear H
                  go_wp2_with (first | ((with_reducible refine gate_callee (f := 14) rfl ?_); refine goesL_ (some 55) rfl rfl Tryd.func14 (by kernel_rfl) rfl #[.string a0] rfl (by (try simp only [List.map_toArray, List.map_cons, List.map_nil]); first | done | rfl | (simp only [List.length_drop, List.length_take]; rfl)) ?_; (with_reducible refine (path_Right.calls a0 t214 _ A18.out).mono ?_); rintro e w44 ⟨rfl, hb⟩; refine ⟨_, rfl, ?_⟩; have n0_ := Aside0.mk (Kd.R_below (by (with_reducible repeat (first | apply Kd.R_alloc | apply Kd.R_drewN | apply Kd.R_drew)); exact HO205.out) hb); have n1_ := Aside0.mk (Kd.R_below (by (with_reducible repeat (first | apply Kd.R_alloc | apply Kd.R_drewN | apply Kd.R_drew)); exact HO209.out) hb); have n2_ := Aside0.mk (below_step (by repeat (first | (with_reducible first | exact HB.out | apply below_alloc | apply pw_below_drewN | apply below_drew1) | exact HB.out)) hb); clear HO205; clear HO209; clear HB; have HO205 := n0_; have HO209 := n1_; have HB := n2_; clear n0_ n1_ n2_; (try clear hb); (try clear hb2); (try clear hk); (try clear hi)) | ((with_reducible refine gate_callee (f := 15) rfl ?_); refine goesL_ (some 57) rfl rfl Tryd.func15 (by kernel_rfl) rfl #[.string a0] rfl (by (try simp only [List.map_toArray, List.map_cons, List.map_nil]); first | done | rfl | (simp only [List.length_drop, List.length_take]; rfl)) ?_; (with_reducible refine (cantonref01_Right.calls kj4 a0 t215 _ A19.out).mono ?_); rintro e w45 ⟨rfl, hb⟩; refine ⟨_, rfl, ?_⟩; have n0_ := Aside0.mk (Kd.R_below (by (with_reducible repeat (first | apply Kd.R_alloc | apply Kd.R_drewN | apply Kd.R_drew)); exact HO205.out) hb); have n1_ := Aside0.mk (Kd.R_below (by (with_reducible repeat (first | apply Kd.R_alloc | apply Kd.R_drewN | apply Kd.R_drew)); exact HO209.out) hb); have n2_ := Aside0.mk (below_step (by repeat (first | (with_reducible first | exact HB.out | apply below_alloc | apply pw_below_drewN | apply below_drew1) | exact HB.out)) hb); clear HO205; clear HO209; clear HB; have HO205 := n0_; have HO209 := n1_; have HB := n2_; clear n0_ n1_ n2_; (try clear hb); (try clear hb2); (try clear hk); (try clear hi); obtain ⟨Ao46, co46, eo46⟩ := Kd.R_slice HO205.out; subst eo46; obtain ⟨Ao47, co47, eo47⟩ := Kd.R_slice HO209.out; subst eo47) | (go_at_call 16; (with_reducible refine (cantonref01_Same.calls kj4 _ _ t202 _ _ t206 true _ ?side1 ?side2 ?side3 ?side4 A23.out).mono ?_); (case side1 => repeat (first | exact (Kd.R_reads' HO205.out).2.2 | (with_reducible refine Kd.C_alloc ?_ _) | (with_reducible refine Kd.C_drewN ?_ _) | (with_reducible refine Kd.C_drew ?_))); (case side2 => exact (Kd.R_reads' HO205.out).2.1); (case side3 => repeat (first | exact (Kd.R_reads' HO209.out).2.2 | (with_reducible refine Kd.C_alloc ?_ _) | (with_reducible refine Kd.C_drewN ?_ _) | (with_reducible refine Kd.C_drew ?_))); (case side4 => exact (Kd.R_reads' HO209.out).2.1); rintro e w' ⟨rfl, ⟨nd, rfl⟩⟩))
                  go_meet
                  case rel => exact ⟨_, (true), (by first | rfl | (simp; done) | (simp [*]; done)), H', ⟨by have := HJ4.out; first | omega | exact Nat.le_refl _⟩, ⟨by repeat (first | (with_reducible first | exact HB.out | apply below_alloc | apply pw_below_drewN | apply below_drew1) | exact HB.out)⟩⟩
            · replace c24 := Bool.eq_false_iff.mpr c24
              subst c24
              have H1 : (cantonlaw01_PathTells.j1 kj4 a0 a1 a2 t201 true) = some r := by rw [if_neg (show ¬ (false = true) by decide)] at H; exact H
              clear H
              have H := H1
              clear H1
              have H' := Aside0.mk H
              clear H
              go_wp2_with (first | ((with_reducible refine gate_callee (f := 14) rfl ?_); refine goesL_ (some 55) rfl rfl Tryd.func14 (by kernel_rfl) rfl #[.string a0] rfl (by (try simp only [List.map_toArray, List.map_cons, List.map_nil]); first | done | rfl | (simp only [List.length_drop, List.length_take]; rfl)) ?_; (with_reducible refine (path_Right.calls a0 t214 _ A18.out).mono ?_); rintro e w48 ⟨rfl, hb⟩; refine ⟨_, rfl, ?_⟩; have n0_ := Aside0.mk (Kd.R_below (by (with_reducible repeat (first | apply Kd.R_alloc | apply Kd.R_drewN | apply Kd.R_drew)); exact HO205.out) hb); have n1_ := Aside0.mk (Kd.R_below (by (with_reducible repeat (first | apply Kd.R_alloc | apply Kd.R_drewN | apply Kd.R_drew)); exact HO209.out) hb); have n2_ := Aside0.mk (below_step (by repeat (first | (with_reducible first | exact HB.out | apply below_alloc | apply pw_below_drewN | apply below_drew1) | exact HB.out)) hb); clear HO205; clear HO209; clear HB; have HO205 := n0_; have HO209 := n1_; have HB := n2_; clear n0_ n1_ n2_; (try clear hb); (try clear hb2); (try clear hk); (try clear hi)) | ((with_reducible refine gate_callee (f := 15) rfl ?_); refine goesL_ (some 57) rfl rfl Tryd.func15 (by kernel_rfl) rfl #[.string a0] rfl (by (try simp only [List.map_toArray, List.map_cons, List.map_nil]); first | done | rfl | (simp only [List.length_drop, List.length_take]; rfl)) ?_; (with_reducible refine (cantonref01_Right.calls kj4 a0 t215 _ A19.out).mono ?_); rintro e w49 ⟨rfl, hb⟩; refine ⟨_, rfl, ?_⟩; have n0_ := Aside0.mk (Kd.R_below (by (with_reducible repeat (first | apply Kd.R_alloc | apply Kd.R_drewN | apply Kd.R_drew)); exact HO205.out) hb); have n1_ := Aside0.mk (Kd.R_below (by (with_reducible repeat (first | apply Kd.R_alloc | apply Kd.R_drewN | apply Kd.R_drew)); exact HO209.out) hb); have n2_ := Aside0.mk (below_step (by repeat (first | (with_reducible first | exact HB.out | apply below_alloc | apply pw_below_drewN | apply below_drew1) | exact HB.out)) hb); clear HO205; clear HO209; clear HB; have HO205 := n0_; have HO209 := n1_; have HB := n2_; clear n0_ n1_ n2_; (try clear hb); (try clear hb2); (try clear hk); (try clear hi); obtain ⟨Ao50, co50, eo50⟩ := Kd.R_slice HO205.out; subst eo50; obtain ⟨Ao51, co51, eo51⟩ := Kd.R_slice HO209.out; subst eo51) | (go_at_call 16; (with_reducible refine (cantonref01_Same.calls kj4 _ _ t202 _ _ t206 false _ ?side1 ?side2 ?side3 ?side4 A23.out).mono ?_); (case side1 => repeat (first | exact (Kd.R_reads' HO205.out).2.2 | (with_reducible refine Kd.C_alloc ?_ _) | (with_reducible refine Kd.C_drewN ?_ _) | (with_reducible refine Kd.C_drew ?_))); (case side2 => exact (Kd.R_reads' HO205.out).2.1); (case side3 => repeat (first | exact (Kd.R_reads' HO209.out).2.2 | (with_reducible refine Kd.C_alloc ?_ _) | (with_reducible refine Kd.C_drewN ?_ _) | (with_reducible refine Kd.C_drew ?_))); (case side4 => exact (Kd.R_reads' HO209.out).2.1); rintro e w' ⟨rfl, ⟨nd, rfl⟩⟩))
              go_meet
              case rel => exact ⟨_, (true), (by first | rfl | (simp; done) | (simp [*]; done)), H', ⟨by have := HJ4.out; first | omega | exact Nat.le_refl _⟩, ⟨by repeat (first | (with_reducible first | exact HB.out | apply below_alloc | apply pw_below_drewN | apply below_drew1) | exact HB.out)⟩⟩
        case rest =>
          clear HC13
          try clear c1
          try clear c2
          try clear p2
          try clear c3
          try clear c7
          try clear c7b0
          try clear c7b1
          try clear c8
          try clear c9
          try clear c10
          try clear c11
          try clear c12
          try clear c13
          try clear c14
          try clear c15
          try clear c20
          try clear c20b0
          try clear c20b1
          try clear c20b2
          try clear c24
          try clear c25
          try clear c25b0
          try clear c25b1
          try clear c25b2
          try clear c30
          try clear c30b0
          try clear c30b1
          try clear c31
          try clear c31b0
          try clear c31b1
          try clear c31b2
          try clear p2
          obtain ⟨kq, x86_12, rfl, HA, HJ12, HB⟩ := hcut
          cases kq with
          | zero => exact absurd HA.out (by simp [cantonlaw01_PathTells.j1])
          | succ kj12 =>
            have H := HA.out
            clear HA
            simp only [cantonlaw01_PathTells.j1] at H
            by_cases c52 : x86_12 = true
            · subst c52
              have H1 : (some false) = some r := by rw [if_pos rfl] at H; exact H
              clear H
              have H := H1
              clear H1
              obtain rfl := Option.some.inj H
              go_wp2
              go_ret
              exact ⟨by first | rfl | (simp [errW_none, errW_some] <;> rfl) | (simp [*, errW_none, errW_some] <;> rfl), by repeat (first | (with_reducible first | exact HB.out | apply below_alloc | apply pw_below_drewN | apply below_drew1) | exact HB.out)⟩
            · replace c52 := Bool.eq_false_iff.mpr c52
              subst c52
              have H1 : ((path_Join.f a0 a1).bind fun bt219 => ((cantonref01_Join.f kj12 a0 a1).bind fun bt221 => ((path_Numbered.f kj12 a1 a2).bind fun bt223 => ((cantonref01_Numbered.f kj12 a1 a2).bind fun bt225 => (if t201 = true then (if bt219.1.toList = bt221.1.toList then (if (bt219.2 == bt221.2) = true then (if bt223.1.toList = bt225.1.toList then (if (bt223.2 == bt225.2) = true then ((path_In.f kj12 a0 a1).bind fun t227 => ((cantonref01_In.f kj12 a0 a1).bind fun t228 => (some (t227 == t228)))) else (some false)) else (some false)) else (some false)) else (some false)) else (some false)))))) = some r := by rw [if_neg (show ¬ (false = true) by decide)] at H; exact H
              clear H
              have H := H1
              clear H1
              replace H := Option.bind_eq_some_iff.mp H
              obtain ⟨⟨t219, t220⟩, A530, H⟩ := H
              replace H : ((cantonref01_Join.f kj12 a0 a1).bind fun bt221 => ((path_Numbered.f kj12 a1 a2).bind fun bt223 => ((cantonref01_Numbered.f kj12 a1 a2).bind fun bt225 => (if t201 = true then (if t219.toList = bt221.1.toList then (if (t220 == bt221.2) = true then (if bt223.1.toList = bt225.1.toList then (if (bt223.2 == bt225.2) = true then ((path_In.f kj12 a0 a1).bind fun t227 => ((cantonref01_In.f kj12 a0 a1).bind fun t228 => (some (t227 == t228)))) else (some false)) else (some false)) else (some false)) else (some false)) else (some false))))) = some r := H
              have A53 := Aside0.mk A530
              clear A530
              replace H := Option.bind_eq_some_iff.mp H
              obtain ⟨⟨t221, t222⟩, A540, H⟩ := H
              replace H : ((path_Numbered.f kj12 a1 a2).bind fun bt223 => ((cantonref01_Numbered.f kj12 a1 a2).bind fun bt225 => (if t201 = true then (if t219.toList = t221.toList then (if (t220 == t222) = true then (if bt223.1.toList = bt225.1.toList then (if (bt223.2 == bt225.2) = true then ((path_In.f kj12 a0 a1).bind fun t227 => ((cantonref01_In.f kj12 a0 a1).bind fun t228 => (some (t227 == t228)))) else (some false)) else (some false)) else (some false)) else (some false)) else (some false)))) = some r := H
              have A54 := Aside0.mk A540
              clear A540
              replace H := Option.bind_eq_some_iff.mp H
              obtain ⟨⟨t223, t224⟩, A550, H⟩ := H
              replace H : ((cantonref01_Numbered.f kj12 a1 a2).bind fun bt225 => (if t201 = true then (if t219.toList = t221.toList then (if (t220 == t222) = true then (if t223.toList = bt225.1.toList then (if (t224 == bt225.2) = true then ((path_In.f kj12 a0 a1).bind fun t227 => ((cantonref01_In.f kj12 a0 a1).bind fun t228 => (some (t227 == t228)))) else (some false)) else (some false)) else (some false)) else (some false)) else (some false))) = some r := H
              have A55 := Aside0.mk A550
              clear A550
              replace H := Option.bind_eq_some_iff.mp H
              obtain ⟨⟨t225, t226⟩, A560, H⟩ := H
              replace H : (if t201 = true then (if t219.toList = t221.toList then (if (t220 == t222) = true then (if t223.toList = t225.toList then (if (t224 == t226) = true then ((path_In.f kj12 a0 a1).bind fun t227 => ((cantonref01_In.f kj12 a0 a1).bind fun t228 => (some (t227 == t228)))) else (some false)) else (some false)) else (some false)) else (some false)) else (some false)) = some r := H
              have A56 := Aside0.mk A560
              clear A560
              by_cases c57 : t201 = true
              · subst c57
                have H1 : (if t219.toList = t221.toList then (if (t220 == t222) = true then (if t223.toList = t225.toList then (if (t224 == t226) = true then ((path_In.f kj12 a0 a1).bind fun t227 => ((cantonref01_In.f kj12 a0 a1).bind fun t228 => (some (t227 == t228)))) else (some false)) else (some false)) else (some false)) else (some false)) = some r := by rw [if_pos rfl] at H; exact H
                clear H
                have H := H1
                clear H1
                by_cases c58 : t219.toList = t221.toList
                · rw [if_pos c58] at H
                  have c58b0 : (t219.toList == t221.toList) = true := beq_iff_eq.mpr c58
                  have c58b1 : (t219.toList != t221.toList) = false := bne_eq_false_iff_eq.mpr c58
                  clear c58
                  by_cases c59 : (t220 == t222) = true
                  · rw [if_pos c59] at H
                    have c59b0 : (t220 == t222) = true := c59
                    (try (have c59b1 : decide (t220 = t222) = true := by simpa using c59))
                    (try (have c59b2 : (t220 == t222) = true := by simpa using c59))
                    clear c59
                    by_cases c60 : t223.toList = t225.toList
                    · rw [if_pos c60] at H
                      have c60b0 : (t223.toList == t225.toList) = true := beq_iff_eq.mpr c60
                      have c60b1 : (t223.toList != t225.toList) = false := bne_eq_false_iff_eq.mpr c60
                      clear c60
                      by_cases c61 : (t224 == t226) = true
                      · rw [if_pos c61] at H
                        have c61b0 : (t224 == t226) = true := c61
                        (try (have c61b1 : decide (t224 = t226) = true := by simpa using c61))
                        (try (have c61b2 : (t224 == t226) = true := by simpa using c61))
                        clear c61
                        replace H := Option.bind_eq_some_iff.mp H
                        obtain ⟨t227, A620, H⟩ := H
                        replace H : ((cantonref01_In.f kj12 a0 a1).bind fun t228 => (some (t227 == t228))) = some r := H
                        have A62 := Aside0.mk A620
                        clear A620
                        replace H := Option.bind_eq_some_iff.mp H
                        obtain ⟨t228, A630, H⟩ := H
                        replace H : (some (t227 == t228)) = some r := H
                        have A63 := Aside0.mk A630
                        clear A630
                        obtain rfl := Option.some.inj H
                        go_wp2_with (first | ((with_reducible refine gate_callee (f := 19) rfl ?_); refine goesL_ (some 90) rfl rfl Tryd.func19 (by kernel_rfl) rfl #[.string a0, .string a1] rfl (by (try simp only [List.map_toArray, List.map_cons, List.map_nil]); first | done | rfl | (simp only [List.length_drop, List.length_take]; rfl)) ?_; (with_reducible refine (path_Join.calls a0 a1 t219 t220 _ A53.out).mono ?_); rintro e w64 ⟨rfl, hb⟩; refine ⟨_, rfl, ?_⟩; have n0_ := Aside0.mk (below_step (by repeat (first | (with_reducible first | exact HB.out | apply below_alloc | apply pw_below_drewN | apply below_drew1) | exact HB.out)) hb); clear HB; have HB := n0_; clear n0_; (try clear hb); (try clear hb2); (try clear hk); (try clear hi)) | ((with_reducible refine gate_callee (f := 20) rfl ?_); refine goesL_ (some 96) rfl rfl Tryd.func20 (by kernel_rfl) rfl #[.string a0, .string a1] rfl (by (try simp only [List.map_toArray, List.map_cons, List.map_nil]); first | done | rfl | (simp only [List.length_drop, List.length_take]; rfl)) ?_; (with_reducible refine (cantonref01_Join.calls kj12 a0 a1 t221 t222 _ A54.out).mono ?_); rintro e w65 ⟨rfl, hb⟩; refine ⟨_, rfl, ?_⟩; have n0_ := Aside0.mk (below_step (by repeat (first | (with_reducible first | exact HB.out | apply below_alloc | apply pw_below_drewN | apply below_drew1) | exact HB.out)) hb); clear HB; have HB := n0_; clear n0_; (try clear hb); (try clear hb2); (try clear hk); (try clear hi)) | ((with_reducible refine gate_callee (f := 21) rfl ?_); refine goesL_ (some 102) rfl rfl Tryd.func21 (by kernel_rfl) rfl #[.string a1, .int .i64 a2] rfl (by (try simp only [List.map_toArray, List.map_cons, List.map_nil]); first | done | rfl | (simp only [List.length_drop, List.length_take]; rfl)) ?_; (with_reducible refine (path_Numbered.calls kj12 a1 a2 t223 t224 _ A55.out (Itoa.tab_step HT.out (by repeat (first | (with_reducible first | exact HB.out | apply below_alloc | apply pw_below_drewN | apply below_drew1) | exact HB.out)))).mono ?_); rintro e w66 ⟨rfl, hb⟩; refine ⟨_, rfl, ?_⟩; have n0_ := Aside0.mk (below_step (by repeat (first | (with_reducible first | exact HB.out | apply below_alloc | apply pw_below_drewN | apply below_drew1) | exact HB.out)) hb); clear HB; have HB := n0_; clear n0_; (try clear hb); (try clear hb2); (try clear hk); (try clear hi)) | ((with_reducible refine gate_callee (f := 22) rfl ?_); refine goesL_ (some 108) rfl rfl Tryd.func22 (by kernel_rfl) rfl #[.string a1, .int .i64 a2] rfl (by (try simp only [List.map_toArray, List.map_cons, List.map_nil]); first | done | rfl | (simp only [List.length_drop, List.length_take]; rfl)) ?_; (with_reducible refine (cantonref01_Numbered.calls kj12 a1 a2 t225 t226 _ A56.out).mono ?_); rintro e w67 ⟨rfl, hb⟩; refine ⟨_, rfl, ?_⟩; have n0_ := Aside0.mk (below_step (by repeat (first | (with_reducible first | exact HB.out | apply below_alloc | apply pw_below_drewN | apply below_drew1) | exact HB.out)) hb); clear HB; have HB := n0_; clear n0_; (try clear hb); (try clear hb2); (try clear hk); (try clear hi)) | (go_at_call 23; (with_reducible refine (path_In.calls kj12 a0 a1 t227 _ A62.out).mono ?_); rintro e w68 ⟨rfl, hb⟩; have n0_ := Aside0.mk (below_step (by repeat (first | (with_reducible first | exact HB.out | apply below_alloc | apply pw_below_drewN | apply below_drew1) | exact HB.out)) hb); clear HB; have HB := n0_; clear n0_; (try clear hb); (try clear hb2); (try clear hk); (try clear hi)) | (go_at_call 24; (with_reducible refine (cantonref01_In.calls kj12 a0 a1 t228 _ A63.out).mono ?_); rintro e w69 ⟨rfl, hb⟩; have n0_ := Aside0.mk (below_step (by repeat (first | (with_reducible first | exact HB.out | apply below_alloc | apply pw_below_drewN | apply below_drew1) | exact HB.out)) hb); clear HB; have HB := n0_; clear n0_; (try clear hb); (try clear hb2); (try clear hk); (try clear hi)))
                        go_ret
                        exact ⟨by first | rfl | (simp [errW_none, errW_some] <;> rfl) | (simp [*, errW_none, errW_some] <;> rfl), by repeat (first | (with_reducible first | exact HB.out | apply below_alloc | apply pw_below_drewN | apply below_drew1) | exact HB.out)⟩
                      · rw [if_neg c61] at H
                        have c61b0 : (t224 == t226) = false := by simpa using c61
                        (try (have c61b1 : decide (t224 = t226) = false := by simpa using c61))
                        (try (have c61b2 : (t224 == t226) = false := by simpa using c61))
                        (try (have c61b3 : ¬ (t224 = t226) := by simpa using c61))
                        clear c61
                        obtain rfl := Option.some.inj H
                        go_wp2_with (first | ((with_reducible refine gate_callee (f := 19) rfl ?_); refine goesL_ (some 90) rfl rfl Tryd.func19 (by kernel_rfl) rfl #[.string a0, .string a1] rfl (by (try simp only [List.map_toArray, List.map_cons, List.map_nil]); first | done | rfl | (simp only [List.length_drop, List.length_take]; rfl)) ?_; (with_reducible refine (path_Join.calls a0 a1 t219 t220 _ A53.out).mono ?_); rintro e w70 ⟨rfl, hb⟩; refine ⟨_, rfl, ?_⟩; have n0_ := Aside0.mk (below_step (by repeat (first | (with_reducible first | exact HB.out | apply below_alloc | apply pw_below_drewN | apply below_drew1) | exact HB.out)) hb); clear HB; have HB := n0_; clear n0_; (try clear hb); (try clear hb2); (try clear hk); (try clear hi)) | ((with_reducible refine gate_callee (f := 20) rfl ?_); refine goesL_ (some 96) rfl rfl Tryd.func20 (by kernel_rfl) rfl #[.string a0, .string a1] rfl (by (try simp only [List.map_toArray, List.map_cons, List.map_nil]); first | done | rfl | (simp only [List.length_drop, List.length_take]; rfl)) ?_; (with_reducible refine (cantonref01_Join.calls kj12 a0 a1 t221 t222 _ A54.out).mono ?_); rintro e w71 ⟨rfl, hb⟩; refine ⟨_, rfl, ?_⟩; have n0_ := Aside0.mk (below_step (by repeat (first | (with_reducible first | exact HB.out | apply below_alloc | apply pw_below_drewN | apply below_drew1) | exact HB.out)) hb); clear HB; have HB := n0_; clear n0_; (try clear hb); (try clear hb2); (try clear hk); (try clear hi)) | ((with_reducible refine gate_callee (f := 21) rfl ?_); refine goesL_ (some 102) rfl rfl Tryd.func21 (by kernel_rfl) rfl #[.string a1, .int .i64 a2] rfl (by (try simp only [List.map_toArray, List.map_cons, List.map_nil]); first | done | rfl | (simp only [List.length_drop, List.length_take]; rfl)) ?_; (with_reducible refine (path_Numbered.calls kj12 a1 a2 t223 t224 _ A55.out (Itoa.tab_step HT.out (by repeat (first | (with_reducible first | exact HB.out | apply below_alloc | apply pw_below_drewN | apply below_drew1) | exact HB.out)))).mono ?_); rintro e w72 ⟨rfl, hb⟩; refine ⟨_, rfl, ?_⟩; have n0_ := Aside0.mk (below_step (by repeat (first | (with_reducible first | exact HB.out | apply below_alloc | apply pw_below_drewN | apply below_drew1) | exact HB.out)) hb); clear HB; have HB := n0_; clear n0_; (try clear hb); (try clear hb2); (try clear hk); (try clear hi)) | ((with_reducible refine gate_callee (f := 22) rfl ?_); refine goesL_ (some 108) rfl rfl Tryd.func22 (by kernel_rfl) rfl #[.string a1, .int .i64 a2] rfl (by (try simp only [List.map_toArray, List.map_cons, List.map_nil]); first | done | rfl | (simp only [List.length_drop, List.length_take]; rfl)) ?_; (with_reducible refine (cantonref01_Numbered.calls kj12 a1 a2 t225 t226 _ A56.out).mono ?_); rintro e w73 ⟨rfl, hb⟩; refine ⟨_, rfl, ?_⟩; have n0_ := Aside0.mk (below_step (by repeat (first | (with_reducible first | exact HB.out | apply below_alloc | apply pw_below_drewN | apply below_drew1) | exact HB.out)) hb); clear HB; have HB := n0_; clear n0_; (try clear hb); (try clear hb2); (try clear hk); (try clear hi)))
                        go_ret
                        exact ⟨by first | rfl | (simp [errW_none, errW_some] <;> rfl) | (simp [*, errW_none, errW_some] <;> rfl), by repeat (first | (with_reducible first | exact HB.out | apply below_alloc | apply pw_below_drewN | apply below_drew1) | exact HB.out)⟩
                    · rw [if_neg c60] at H
                      have c60b0 : (t223.toList == t225.toList) = false := beq_eq_false_iff_ne.mpr c60
                      have c60b1 : (t223.toList != t225.toList) = true := bne_iff_ne.mpr c60
                      obtain rfl := Option.some.inj H
                      go_wp2_with (first | ((with_reducible refine gate_callee (f := 19) rfl ?_); refine goesL_ (some 90) rfl rfl Tryd.func19 (by kernel_rfl) rfl #[.string a0, .string a1] rfl (by (try simp only [List.map_toArray, List.map_cons, List.map_nil]); first | done | rfl | (simp only [List.length_drop, List.length_take]; rfl)) ?_; (with_reducible refine (path_Join.calls a0 a1 t219 t220 _ A53.out).mono ?_); rintro e w74 ⟨rfl, hb⟩; refine ⟨_, rfl, ?_⟩; have n0_ := Aside0.mk (below_step (by repeat (first | (with_reducible first | exact HB.out | apply below_alloc | apply pw_below_drewN | apply below_drew1) | exact HB.out)) hb); clear HB; have HB := n0_; clear n0_; (try clear hb); (try clear hb2); (try clear hk); (try clear hi)) | ((with_reducible refine gate_callee (f := 20) rfl ?_); refine goesL_ (some 96) rfl rfl Tryd.func20 (by kernel_rfl) rfl #[.string a0, .string a1] rfl (by (try simp only [List.map_toArray, List.map_cons, List.map_nil]); first | done | rfl | (simp only [List.length_drop, List.length_take]; rfl)) ?_; (with_reducible refine (cantonref01_Join.calls kj12 a0 a1 t221 t222 _ A54.out).mono ?_); rintro e w75 ⟨rfl, hb⟩; refine ⟨_, rfl, ?_⟩; have n0_ := Aside0.mk (below_step (by repeat (first | (with_reducible first | exact HB.out | apply below_alloc | apply pw_below_drewN | apply below_drew1) | exact HB.out)) hb); clear HB; have HB := n0_; clear n0_; (try clear hb); (try clear hb2); (try clear hk); (try clear hi)) | ((with_reducible refine gate_callee (f := 21) rfl ?_); refine goesL_ (some 102) rfl rfl Tryd.func21 (by kernel_rfl) rfl #[.string a1, .int .i64 a2] rfl (by (try simp only [List.map_toArray, List.map_cons, List.map_nil]); first | done | rfl | (simp only [List.length_drop, List.length_take]; rfl)) ?_; (with_reducible refine (path_Numbered.calls kj12 a1 a2 t223 t224 _ A55.out (Itoa.tab_step HT.out (by repeat (first | (with_reducible first | exact HB.out | apply below_alloc | apply pw_below_drewN | apply below_drew1) | exact HB.out)))).mono ?_); rintro e w76 ⟨rfl, hb⟩; refine ⟨_, rfl, ?_⟩; have n0_ := Aside0.mk (below_step (by repeat (first | (with_reducible first | exact HB.out | apply below_alloc | apply pw_below_drewN | apply below_drew1) | exact HB.out)) hb); clear HB; have HB := n0_; clear n0_; (try clear hb); (try clear hb2); (try clear hk); (try clear hi)) | ((with_reducible refine gate_callee (f := 22) rfl ?_); refine goesL_ (some 108) rfl rfl Tryd.func22 (by kernel_rfl) rfl #[.string a1, .int .i64 a2] rfl (by (try simp only [List.map_toArray, List.map_cons, List.map_nil]); first | done | rfl | (simp only [List.length_drop, List.length_take]; rfl)) ?_; (with_reducible refine (cantonref01_Numbered.calls kj12 a1 a2 t225 t226 _ A56.out).mono ?_); rintro e w77 ⟨rfl, hb⟩; refine ⟨_, rfl, ?_⟩; have n0_ := Aside0.mk (below_step (by repeat (first | (with_reducible first | exact HB.out | apply below_alloc | apply pw_below_drewN | apply below_drew1) | exact HB.out)) hb); clear HB; have HB := n0_; clear n0_; (try clear hb); (try clear hb2); (try clear hk); (try clear hi)))
                      go_ret
                      exact ⟨by first | rfl | (simp [errW_none, errW_some] <;> rfl) | (simp [*, errW_none, errW_some] <;> rfl), by repeat (first | (with_reducible first | exact HB.out | apply below_alloc | apply pw_below_drewN | apply below_drew1) | exact HB.out)⟩
                  · rw [if_neg c59] at H
                    have c59b0 : (t220 == t222) = false := by simpa using c59
                    (try (have c59b1 : decide (t220 = t222) = false := by simpa using c59))
                    (try (have c59b2 : (t220 == t222) = false := by simpa using c59))
                    (try (have c59b3 : ¬ (t220 = t222) := by simpa using c59))
                    clear c59
                    obtain rfl := Option.some.inj H
                    go_wp2_with (first | ((with_reducible refine gate_callee (f := 19) rfl ?_); refine goesL_ (some 90) rfl rfl Tryd.func19 (by kernel_rfl) rfl #[.string a0, .string a1] rfl (by (try simp only [List.map_toArray, List.map_cons, List.map_nil]); first | done | rfl | (simp only [List.length_drop, List.length_take]; rfl)) ?_; (with_reducible refine (path_Join.calls a0 a1 t219 t220 _ A53.out).mono ?_); rintro e w78 ⟨rfl, hb⟩; refine ⟨_, rfl, ?_⟩; have n0_ := Aside0.mk (below_step (by repeat (first | (with_reducible first | exact HB.out | apply below_alloc | apply pw_below_drewN | apply below_drew1) | exact HB.out)) hb); clear HB; have HB := n0_; clear n0_; (try clear hb); (try clear hb2); (try clear hk); (try clear hi)) | ((with_reducible refine gate_callee (f := 20) rfl ?_); refine goesL_ (some 96) rfl rfl Tryd.func20 (by kernel_rfl) rfl #[.string a0, .string a1] rfl (by (try simp only [List.map_toArray, List.map_cons, List.map_nil]); first | done | rfl | (simp only [List.length_drop, List.length_take]; rfl)) ?_; (with_reducible refine (cantonref01_Join.calls kj12 a0 a1 t221 t222 _ A54.out).mono ?_); rintro e w79 ⟨rfl, hb⟩; refine ⟨_, rfl, ?_⟩; have n0_ := Aside0.mk (below_step (by repeat (first | (with_reducible first | exact HB.out | apply below_alloc | apply pw_below_drewN | apply below_drew1) | exact HB.out)) hb); clear HB; have HB := n0_; clear n0_; (try clear hb); (try clear hb2); (try clear hk); (try clear hi)) | ((with_reducible refine gate_callee (f := 21) rfl ?_); refine goesL_ (some 102) rfl rfl Tryd.func21 (by kernel_rfl) rfl #[.string a1, .int .i64 a2] rfl (by (try simp only [List.map_toArray, List.map_cons, List.map_nil]); first | done | rfl | (simp only [List.length_drop, List.length_take]; rfl)) ?_; (with_reducible refine (path_Numbered.calls kj12 a1 a2 t223 t224 _ A55.out (Itoa.tab_step HT.out (by repeat (first | (with_reducible first | exact HB.out | apply below_alloc | apply pw_below_drewN | apply below_drew1) | exact HB.out)))).mono ?_); rintro e w80 ⟨rfl, hb⟩; refine ⟨_, rfl, ?_⟩; have n0_ := Aside0.mk (below_step (by repeat (first | (with_reducible first | exact HB.out | apply below_alloc | apply pw_below_drewN | apply below_drew1) | exact HB.out)) hb); clear HB; have HB := n0_; clear n0_; (try clear hb); (try clear hb2); (try clear hk); (try clear hi)) | ((with_reducible refine gate_callee (f := 22) rfl ?_); refine goesL_ (some 108) rfl rfl Tryd.func22 (by kernel_rfl) rfl #[.string a1, .int .i64 a2] rfl (by (try simp only [List.map_toArray, List.map_cons, List.map_nil]); first | done | rfl | (simp only [List.length_drop, List.length_take]; rfl)) ?_; (with_reducible refine (cantonref01_Numbered.calls kj12 a1 a2 t225 t226 _ A56.out).mono ?_); rintro e w81 ⟨rfl, hb⟩; refine ⟨_, rfl, ?_⟩; have n0_ := Aside0.mk (below_step (by repeat (first | (with_reducible first | exact HB.out | apply below_alloc | apply pw_below_drewN | apply below_drew1) | exact HB.out)) hb); clear HB; have HB := n0_; clear n0_; (try clear hb); (try clear hb2); (try clear hk); (try clear hi)))
                    go_ret
                    exact ⟨by first | rfl | (simp [errW_none, errW_some] <;> rfl) | (simp [*, errW_none, errW_some] <;> rfl), by repeat (first | (with_reducible first | exact HB.out | apply below_alloc | apply pw_below_drewN | apply below_drew1) | exact HB.out)⟩
                · rw [if_neg c58] at H
                  have c58b0 : (t219.toList == t221.toList) = false := beq_eq_false_iff_ne.mpr c58
                  have c58b1 : (t219.toList != t221.toList) = true := bne_iff_ne.mpr c58
                  obtain rfl := Option.some.inj H
                  go_wp2_with (first | ((with_reducible refine gate_callee (f := 19) rfl ?_); refine goesL_ (some 90) rfl rfl Tryd.func19 (by kernel_rfl) rfl #[.string a0, .string a1] rfl (by (try simp only [List.map_toArray, List.map_cons, List.map_nil]); first | done | rfl | (simp only [List.length_drop, List.length_take]; rfl)) ?_; (with_reducible refine (path_Join.calls a0 a1 t219 t220 _ A53.out).mono ?_); rintro e w82 ⟨rfl, hb⟩; refine ⟨_, rfl, ?_⟩; have n0_ := Aside0.mk (below_step (by repeat (first | (with_reducible first | exact HB.out | apply below_alloc | apply pw_below_drewN | apply below_drew1) | exact HB.out)) hb); clear HB; have HB := n0_; clear n0_; (try clear hb); (try clear hb2); (try clear hk); (try clear hi)) | ((with_reducible refine gate_callee (f := 20) rfl ?_); refine goesL_ (some 96) rfl rfl Tryd.func20 (by kernel_rfl) rfl #[.string a0, .string a1] rfl (by (try simp only [List.map_toArray, List.map_cons, List.map_nil]); first | done | rfl | (simp only [List.length_drop, List.length_take]; rfl)) ?_; (with_reducible refine (cantonref01_Join.calls kj12 a0 a1 t221 t222 _ A54.out).mono ?_); rintro e w83 ⟨rfl, hb⟩; refine ⟨_, rfl, ?_⟩; have n0_ := Aside0.mk (below_step (by repeat (first | (with_reducible first | exact HB.out | apply below_alloc | apply pw_below_drewN | apply below_drew1) | exact HB.out)) hb); clear HB; have HB := n0_; clear n0_; (try clear hb); (try clear hb2); (try clear hk); (try clear hi)) | ((with_reducible refine gate_callee (f := 21) rfl ?_); refine goesL_ (some 102) rfl rfl Tryd.func21 (by kernel_rfl) rfl #[.string a1, .int .i64 a2] rfl (by (try simp only [List.map_toArray, List.map_cons, List.map_nil]); first | done | rfl | (simp only [List.length_drop, List.length_take]; rfl)) ?_; (with_reducible refine (path_Numbered.calls kj12 a1 a2 t223 t224 _ A55.out (Itoa.tab_step HT.out (by repeat (first | (with_reducible first | exact HB.out | apply below_alloc | apply pw_below_drewN | apply below_drew1) | exact HB.out)))).mono ?_); rintro e w84 ⟨rfl, hb⟩; refine ⟨_, rfl, ?_⟩; have n0_ := Aside0.mk (below_step (by repeat (first | (with_reducible first | exact HB.out | apply below_alloc | apply pw_below_drewN | apply below_drew1) | exact HB.out)) hb); clear HB; have HB := n0_; clear n0_; (try clear hb); (try clear hb2); (try clear hk); (try clear hi)) | ((with_reducible refine gate_callee (f := 22) rfl ?_); refine goesL_ (some 108) rfl rfl Tryd.func22 (by kernel_rfl) rfl #[.string a1, .int .i64 a2] rfl (by (try simp only [List.map_toArray, List.map_cons, List.map_nil]); first | done | rfl | (simp only [List.length_drop, List.length_take]; rfl)) ?_; (with_reducible refine (cantonref01_Numbered.calls kj12 a1 a2 t225 t226 _ A56.out).mono ?_); rintro e w85 ⟨rfl, hb⟩; refine ⟨_, rfl, ?_⟩; have n0_ := Aside0.mk (below_step (by repeat (first | (with_reducible first | exact HB.out | apply below_alloc | apply pw_below_drewN | apply below_drew1) | exact HB.out)) hb); clear HB; have HB := n0_; clear n0_; (try clear hb); (try clear hb2); (try clear hk); (try clear hi)))
                  go_ret
                  exact ⟨by first | rfl | (simp [errW_none, errW_some] <;> rfl) | (simp [*, errW_none, errW_some] <;> rfl), by repeat (first | (with_reducible first | exact HB.out | apply below_alloc | apply pw_below_drewN | apply below_drew1) | exact HB.out)⟩
              · replace c57 := Bool.eq_false_iff.mpr c57
                subst c57
                have H1 : (some false) = some r := by rw [if_neg (show ¬ (false = true) by decide)] at H; exact H
                clear H
                have H := H1
                clear H1
                obtain rfl := Option.some.inj H
                go_wp2_with (first | ((with_reducible refine gate_callee (f := 19) rfl ?_); refine goesL_ (some 90) rfl rfl Tryd.func19 (by kernel_rfl) rfl #[.string a0, .string a1] rfl (by (try simp only [List.map_toArray, List.map_cons, List.map_nil]); first | done | rfl | (simp only [List.length_drop, List.length_take]; rfl)) ?_; (with_reducible refine (path_Join.calls a0 a1 t219 t220 _ A53.out).mono ?_); rintro e w86 ⟨rfl, hb⟩; refine ⟨_, rfl, ?_⟩; have n0_ := Aside0.mk (below_step (by repeat (first | (with_reducible first | exact HB.out | apply below_alloc | apply pw_below_drewN | apply below_drew1) | exact HB.out)) hb); clear HB; have HB := n0_; clear n0_; (try clear hb); (try clear hb2); (try clear hk); (try clear hi)) | ((with_reducible refine gate_callee (f := 20) rfl ?_); refine goesL_ (some 96) rfl rfl Tryd.func20 (by kernel_rfl) rfl #[.string a0, .string a1] rfl (by (try simp only [List.map_toArray, List.map_cons, List.map_nil]); first | done | rfl | (simp only [List.length_drop, List.length_take]; rfl)) ?_; (with_reducible refine (cantonref01_Join.calls kj12 a0 a1 t221 t222 _ A54.out).mono ?_); rintro e w87 ⟨rfl, hb⟩; refine ⟨_, rfl, ?_⟩; have n0_ := Aside0.mk (below_step (by repeat (first | (with_reducible first | exact HB.out | apply below_alloc | apply pw_below_drewN | apply below_drew1) | exact HB.out)) hb); clear HB; have HB := n0_; clear n0_; (try clear hb); (try clear hb2); (try clear hk); (try clear hi)) | ((with_reducible refine gate_callee (f := 21) rfl ?_); refine goesL_ (some 102) rfl rfl Tryd.func21 (by kernel_rfl) rfl #[.string a1, .int .i64 a2] rfl (by (try simp only [List.map_toArray, List.map_cons, List.map_nil]); first | done | rfl | (simp only [List.length_drop, List.length_take]; rfl)) ?_; (with_reducible refine (path_Numbered.calls kj12 a1 a2 t223 t224 _ A55.out (Itoa.tab_step HT.out (by repeat (first | (with_reducible first | exact HB.out | apply below_alloc | apply pw_below_drewN | apply below_drew1) | exact HB.out)))).mono ?_); rintro e w88 ⟨rfl, hb⟩; refine ⟨_, rfl, ?_⟩; have n0_ := Aside0.mk (below_step (by repeat (first | (with_reducible first | exact HB.out | apply below_alloc | apply pw_below_drewN | apply below_drew1) | exact HB.out)) hb); clear HB; have HB := n0_; clear n0_; (try clear hb); (try clear hb2); (try clear hk); (try clear hi)) | ((with_reducible refine gate_callee (f := 22) rfl ?_); refine goesL_ (some 108) rfl rfl Tryd.func22 (by kernel_rfl) rfl #[.string a1, .int .i64 a2] rfl (by (try simp only [List.map_toArray, List.map_cons, List.map_nil]); first | done | rfl | (simp only [List.length_drop, List.length_take]; rfl)) ?_; (with_reducible refine (cantonref01_Numbered.calls kj12 a1 a2 t225 t226 _ A56.out).mono ?_); rintro e w89 ⟨rfl, hb⟩; refine ⟨_, rfl, ?_⟩; have n0_ := Aside0.mk (below_step (by repeat (first | (with_reducible first | exact HB.out | apply below_alloc | apply pw_below_drewN | apply below_drew1) | exact HB.out)) hb); clear HB; have HB := n0_; clear n0_; (try clear hb); (try clear hb2); (try clear hk); (try clear hi)))
                go_ret
                exact ⟨by first | rfl | (simp [errW_none, errW_some] <;> rfl) | (simp [*, errW_none, errW_some] <;> rfl), by repeat (first | (with_reducible first | exact HB.out | apply below_alloc | apply pw_below_drewN | apply below_drew1) | exact HB.out)⟩

/-- THE ONE PURE STATEMENT of cantonlaw01_PathTells: yours. -/
def cantonlaw01_PathTells.Pure : Prop := ∀ (a0 : ByteArray) (a1 : ByteArray) (a2 : Int), a0.size ≤ 140737488351232 → a1.size ≤ 140737488351232 → (Lit.int .i64 a2).wf = true → ∃ k, cantonlaw01_PathTells.f k a0 a1 a2 = some true
theorem cantonlaw01_PathTells.walk (P : cantonlaw01_PathTells.Pure) (a0 : ByteArray) (a1 : ByteArray) (a2 : Int) (w : World) (w0 : a0.size ≤ 140737488351232) (w1 : a1.size ≤ 140737488351232) (w2 : (Lit.int .i64 a2).wf = true) (hT : Itoa.Tab w) :
    Calls Tryd.prog 3 #[.string a0, .string a1, .int .i64 a2] w fun e w' => e = .returned (.bool true) ∧ Below w.heap.size w w' := by
  obtain ⟨k, h⟩ := P a0 a1 a2 w0 w1 w2
  refine (cantonlaw01_PathTells.calls k a0 a1 a2 true w h hT).mono ?_
  rintro e w' ⟨rfl, hd⟩
  exact ⟨rfl, hd⟩

end Go.Proofs.YtopgenipifhjfaaDoor.Q
