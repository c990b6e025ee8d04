-- Written by a program of this session (xprint) out of the translation; over contracts proved by hand.
import Derived.Test.YtpkaedpgpncgpaaQx0
import Derived.Test.YtpkaedpgpncgpaaSplit
namespace Go.Proofs.Ytpkaedpgpncgpaa.MBegin
end Go.Proofs.Ytpkaedpgpncgpaa.MBegin
namespace Go.Proofs.Ytpkaedpgpncgpaa.Split
end Go.Proofs.Ytpkaedpgpncgpaa.Split
namespace Go.Proofs.Ytpkaedpgpncgpaa.Q
open Go.Proofs.Ytpkaedpgpncgpaa.MBegin Go.Proofs.Ytpkaedpgpncgpaa.Split
set_option linter.unnecessarySimpa false
open Go.RowKit Go.Proofs.YtpkaedpgpncgpaaW.PrintWords Go.Proofs.YtpkaedpgpncgpaaW.PrintLast Go.Proofs.YtpkaedpgpncgpaaW.PrintMore
attribute [local go_sem] max2_int min2_int max_two min_two max_three min_three max_four min_four   -- for this text's walks alone
set_option linter.unusedVariables false
set_option linter.unusedSimpArgs false

/-! ### path_Right: function 23 -/
def path_Right.f (a0 : ByteArray) : Option (Bool) := (path_Split.f a0).bind fun bt101 => (some bt101.2)
set_option maxHeartbeats 8000000 in
set_option maxRecDepth 100000 in
theorem path_Right.calls (a0 : ByteArray) (r : Bool) (w : World) (h : path_Right.f a0 = some r) :
    Calls Try.prog 23 #[.string a0] w fun e w' => e = .returned (.bool r) ∧ Below w.heap.size w w' := by
  have HB := Aside0.mk (Below.refl w.heap.size w)
  have H : ((path_Split.f a0).bind fun bt101 => (some bt101.2)) = some r := h
  clear h
  replace H := Option.bind_eq_some_iff.mp H
  obtain ⟨⟨t101, t102⟩, A20, H⟩ := H
  replace H : (some t102) = some r := H
  have A2 := Aside0.mk A20
  clear A20
  obtain rfl := Option.some.inj H
  go_enter Try.func23, Try.ntmps23
  go_wp2_with (first | ((with_reducible refine gate_callee (f := 33) rfl ?_); refine goesL_ (some 7) rfl rfl Try.func33 (by kernel_rfl) rfl #[.string a0] rfl (by (try simp only [List.map_toArray, List.map_cons, List.map_nil]); first | done | rfl | (simp only [List.length_drop, List.length_take]; rfl)) ?_; (with_reducible refine (path_Split.calls a0 t101 t102 _ A2.out).mono ?_); rintro e w3 ⟨v103, rfl, ho0, hb⟩; refine ⟨_, rfl, ?_⟩; have n0_ := Aside0.mk (Kd.R_lower ho0 (below_size (by repeat (first | (with_reducible first | exact HB.out | apply below_alloc | apply pw_below_drewN | apply below_drew1) | exact HB.out)))); have n1_ := Aside0.mk (below_step (by repeat (first | (with_reducible first | exact HB.out | apply below_alloc | apply pw_below_drewN | apply below_drew1) | exact HB.out)) hb); clear HB; have HO104 := n0_; have HB := n1_; clear n0_ n1_; (try clear hb); (try clear hb2); (try clear hk); (try clear hi); (try clear ho0)))
  go_ret
  exact ⟨by first | rfl | (simp [errW_none, errW_some] <;> rfl) | (simp [*, errW_none, errW_some] <;> rfl), by repeat (first | (with_reducible first | exact HB.out | apply below_alloc | apply pw_below_drewN | apply below_drew1) | exact HB.out)⟩

/-! ### mounts_group: function 24 -/
def mounts_group.f (a0 : Int) : Option (Bool) := if a0 ≥ 0 then (some (decide (a0 < 4))) else (some false)
set_option maxHeartbeats 8000000 in
set_option maxRecDepth 100000 in
theorem mounts_group.calls (a0 : Int) (r : Bool) (w : World) (h : mounts_group.f a0 = some r) :
    Calls Try.prog 24 #[.int .i64 a0] w fun e w' => e = .returned (.bool r) ∧ Drawn0 w w' := by
  have H : (if a0 ≥ 0 then (some (decide (a0 < 4))) else (some false)) = some r := h
  clear h
  by_cases c2 : a0 ≥ 0
  · rw [if_pos c2] at H
    have c2b0 : decide (0 ≤ a0) = true := decide_eq_true c2
    clear c2
    obtain rfl := Option.some.inj H
    go_enter Try.func24, Try.ntmps24
    go_wp2
    go_ret
    exact ⟨by first | rfl | (simp; done) | (simp [*]; done), by repeat (first | exact Drawn0.refl _ | apply Drawn0.step)⟩
  · rw [if_neg c2] at H
    have c2b0 : decide (0 ≤ a0) = false := decide_eq_false c2
    clear c2
    obtain rfl := Option.some.inj H
    go_enter Try.func24, Try.ntmps24
    go_wp2
    go_ret
    exact ⟨by first | rfl | (simp; done) | (simp [*]; done), by repeat (first | exact Drawn0.refl _ | apply Drawn0.step)⟩

end Go.Proofs.Ytpkaedpgpncgpaa.Q
