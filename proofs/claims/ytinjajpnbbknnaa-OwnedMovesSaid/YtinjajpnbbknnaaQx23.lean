-- Written by a program of this session (xprint) out of the translation; over contracts proved by hand.
import Derived.Test.YtinjajpnbbknnaaQx0
import Derived.Test.YtinjajpnbbknnaaSq
import Derived.Test.YtinjajpnbbknnaaQx8
import Derived.Test.YtinjajpnbbknnaaQx9
namespace Go.Proofs.Ytinjajpnbbknnaa.Cut2
end Go.Proofs.Ytinjajpnbbknnaa.Cut2
namespace Go.Proofs.Ytinjajpnbbknnaa.RPut
end Go.Proofs.Ytinjajpnbbknnaa.RPut
namespace Go.Proofs.Ytinjajpnbbknnaa.Split
end Go.Proofs.Ytinjajpnbbknnaa.Split
namespace Go.Proofs.Ytinjajpnbbknnaa.Q
open Go.Proofs.Ytinjajpnbbknnaa.Cut2 Go.Proofs.Ytinjajpnbbknnaa.RPut Go.Proofs.Ytinjajpnbbknnaa.Split
set_option linter.unnecessarySimpa false
open Go.RowKit Go.Proofs.YtinjajpnbbknnaaW.PrintWords Go.Proofs.YtinjajpnbbknnaaW.PrintLast Go.Proofs.YtinjajpnbbknnaaW.PrintMore
attribute [local go_sem] max2_int min2_int max_two min_two max_three min_three max_four min_four   -- for this text's walks alone
set_option linter.unusedVariables false
set_option linter.unusedSimpArgs false

abbrev x23tr17_0 : Array Bool := #[false, false, false, false, false, false, false, false, false, false, false, false, false, false, false, false, false]
abbrev x23tr17_1 : Array Bool := #[true, false, false, false, false, false, false, false, false, false, false, false, false, false, false, false, false]
abbrev x23tr17_10 : Array Bool := #[true, true, true, true, true, true, true, true, true, true, false, false, false, false, false, false, false]
abbrev x23tr17_11 : Array Bool := #[true, true, true, true, true, true, true, true, true, true, true, false, false, false, false, false, false]
abbrev x23tr17_12 : Array Bool := #[true, true, true, true, true, true, true, true, true, true, true, true, false, false, false, false, false]
abbrev x23tr17_13 : Array Bool := #[true, true, true, true, true, true, true, true, true, true, true, true, true, false, false, false, false]
abbrev x23tr17_14 : Array Bool := #[true, true, true, true, true, true, true, true, true, true, true, true, true, true, false, false, false]
abbrev x23tr17_15 : Array Bool := #[true, true, true, true, true, true, true, true, true, true, true, true, true, true, true, false, false]
abbrev x23tr17_16 : Array Bool := #[true, true, true, true, true, true, true, true, true, true, true, true, true, true, true, true, false]
abbrev x23tr17_17 : Array Bool := #[true, true, true, true, true, true, true, true, true, true, true, true, true, true, true, true, true]
abbrev x23tr17_2 : Array Bool := #[true, true, false, false, false, false, false, false, false, false, false, false, false, false, false, false, false]
abbrev x23tr17_3 : Array Bool := #[true, true, true, false, false, false, false, false, false, false, false, false, false, false, false, false, false]
abbrev x23tr17_4 : Array Bool := #[true, true, true, true, false, false, false, false, false, false, false, false, false, false, false, false, false]
abbrev x23tr17_5 : Array Bool := #[true, true, true, true, true, false, false, false, false, false, false, false, false, false, false, false, false]
abbrev x23tr17_6 : Array Bool := #[true, true, true, true, true, true, false, false, false, false, false, false, false, false, false, false, false]
abbrev x23tr17_7 : Array Bool := #[true, true, true, true, true, true, true, false, false, false, false, false, false, false, false, false, false]
abbrev x23tr17_8 : Array Bool := #[true, true, true, true, true, true, true, true, false, false, false, false, false, false, false, false, false]
abbrev x23tr17_9 : Array Bool := #[true, true, true, true, true, true, true, true, true, false, false, false, false, false, false, false, false]
abbrev x23tr17_m11110100000000000 : Array Bool := #[true, true, true, true, false, true, false, false, false, false, false, false, false, false, false, false, false]
abbrev x23tr17_m11110100100000000 : Array Bool := #[true, true, true, true, false, true, false, false, true, false, false, false, false, false, false, false, false]
abbrev x23tr17_m11110100110000000 : Array Bool := #[true, true, true, true, false, true, false, false, true, true, false, false, false, false, false, false, false]
abbrev x23tr17_m11110100111000000 : Array Bool := #[true, true, true, true, false, true, false, false, true, true, true, false, false, false, false, false, false]
abbrev x23tr17_m11110100111100000 : Array Bool := #[true, true, true, true, false, true, false, false, true, true, true, true, false, false, false, false, false]
abbrev x23tr17_m11111100111100000 : Array Bool := #[true, true, true, true, true, true, false, false, true, true, true, true, false, false, false, false, false]
abbrev x23tr17_m11111101111100000 : Array Bool := #[true, true, true, true, true, true, false, true, true, true, true, true, false, false, false, false, false]
abbrev x23tr17_m11111101111110000 : Array Bool := #[true, true, true, true, true, true, false, true, true, true, true, true, true, false, false, false, false]
abbrev x23tr17_m11111101111111000 : Array Bool := #[true, true, true, true, true, true, false, true, true, true, true, true, true, true, false, false, false]
abbrev x23tr17_m11111110111100000 : Array Bool := #[true, true, true, true, true, true, true, false, true, true, true, true, false, false, false, false, false]
/-! ### cantonlaw11_OwnedMoves: function 7 -/
mutual
def cantonlaw11_OwnedMoves.j0 : Nat → ByteArray → Int → Bool → Bool → Option (Bool)
 | 0, _, _, _, _ => none
 | k + 1, x0, x1, x5, x24 => if x24 = true then (some x5) else (cantonlaw11_OwnedMoves.l0 k x0 x1 x5 (([(([(⟨(⟨#[47]⟩ : ByteArray), 1, 1⟩ : S45)] : List (S45))), (([(⟨(⟨#[47]⟩ : ByteArray), 1, 3⟩ : S45)] : List (S45)))] : List (List (S45)))) 1 0)
def cantonlaw11_OwnedMoves.l0 : Nat → ByteArray → Int → Bool → List (List (S45)) → Int → Int → Option (Bool)
 | 0, _, _, _, _, _, _ => none
 | k + 1, x0, x1, x5, x6, x7, x8 => if x8 < (wrap64 (Int.tmod x1 20)) then (if 0 ≤ (Int.tmod x8 2) then (if (Int.tmod x8 2) < (x6.length : Int) then ((owned_Freeze.f k (rd_L5 x6 (Int.tmod x8 2)) x0).bind fun bt517 => (if 0 ≤ (wrap64 (1 - (Int.tmod x8 2))) then (if (wrap64 (1 - (Int.tmod x8 2))) < (x6.length : Int) then ((owned_Install.f k (rd_L5 x6 (wrap64 (1 - (Int.tmod x8 2)))) x0 (wrap64 (x7 + 1))).bind fun bt522 => (if bt517.2 = true then (if bt522.2 = true then ((owned_State.f k bt517.1 x0).bind fun t526 => (if t526 = 2 then ((owned_State.f k bt522.1 x0).bind fun t527 => (cantonlaw11_OwnedMoves.j2 k x0 x1 x5 x6 x7 x8 (Int.tmod x8 2) bt517.1 bt522.1 (t527 != 1))) else (cantonlaw11_OwnedMoves.j2 k x0 x1 x5 x6 x7 x8 (Int.tmod x8 2) bt517.1 bt522.1 true))) else (cantonlaw11_OwnedMoves.j2 k x0 x1 x5 x6 x7 x8 (Int.tmod x8 2) bt517.1 bt522.1 true)) else (cantonlaw11_OwnedMoves.j2 k x0 x1 x5 x6 x7 x8 (Int.tmod x8 2) bt517.1 bt522.1 true))) else (none)) else (none))) else (none)) else (none)) else (if x5 = true then (if 0 < (x6.length : Int) then ((owned_State.f k (rd_L5 x6 0) x0).bind fun t511 => ((some (([1, 3] : List Int) : List Int)).bind fun y512 => (if 0 ≤ (Int.tmod (wrap64 (Int.tmod x1 20)) 2) then (if (Int.tmod (wrap64 (Int.tmod x1 20)) 2) < (y512.length : Int) then (some (t511 == (rd y512 (Int.tmod (wrap64 (Int.tmod x1 20)) 2)))) else (none)) else (none)))) else (none)) else (some false))
def cantonlaw11_OwnedMoves.j2 : Nat → ByteArray → Int → Bool → List (List (S45)) → Int → Int → Int → List (S45) → List (S45) → Bool → Option (Bool)
 | 0, _, _, _, _, _, _, _, _, _, _ => none
 | k + 1, x0, x1, x5, x6, x7, x8, x9, x10, x12, x78 => if x78 = true then (some false) else ((owned_Drop.f k x10 x0 x7).bind fun bt528 => (if bt528.2 = true then ((owned_State.f k bt528.1 x0).bind fun t532 => (if t532 = 3 then (if 0 ≤ x9 then (if x9 < (x6.length : Int) then (if 0 ≤ (wrap64 (1 - x9)) then (if (wrap64 (1 - x9)) < (x6.length : Int) then (cantonlaw11_OwnedMoves.l0 k x0 x1 x5 ((x6.set (x9 : Int).toNat bt528.1).set ((wrap64 (1 - x9)) : Int).toNat x12) (wrap64 (x7 + 1)) (wrap64 (x8 + 1))) else (none)) else (none)) else (none)) else (none)) else (some false))) else (some false)))
end
def cantonlaw11_OwnedMoves.f (k : Nat) (a0 : ByteArray) (a1 : Int) : Option (Bool) := (cantonlaw11_head.f k).bind fun t499 => (if (a0.size : Int) > 1000 then (cantonlaw11_OwnedMoves.j0 k a0 a1 t499 true) else ((cantonref01_Right.f k a0).bind fun t500 => (cantonlaw11_OwnedMoves.j0 k a0 a1 t499 (!t500))))
theorem cantonlaw11_OwnedMoves.mono_l : ∀ k, (∀ y0 y1 y2 y3, LeO (cantonlaw11_OwnedMoves.j0 k y0 y1 y2 y3) (cantonlaw11_OwnedMoves.j0 (k + 1) y0 y1 y2 y3)) ∧ (∀ y0 y1 y2 y3 y4 y5, LeO (cantonlaw11_OwnedMoves.l0 k y0 y1 y2 y3 y4 y5) (cantonlaw11_OwnedMoves.l0 (k + 1) y0 y1 y2 y3 y4 y5)) ∧ (∀ y0 y1 y2 y3 y4 y5 y6 y7 y8 y9, LeO (cantonlaw11_OwnedMoves.j2 k y0 y1 y2 y3 y4 y5 y6 y7 y8 y9) (cantonlaw11_OwnedMoves.j2 (k + 1) y0 y1 y2 y3 y4 y5 y6 y7 y8 y9))
 | 0 => ⟨fun _ _ _ _ r h => by simp [cantonlaw11_OwnedMoves.j0] at h, fun _ _ _ _ _ _ r h => by simp [cantonlaw11_OwnedMoves.l0] at h, fun _ _ _ _ _ _ _ _ _ _ r h => by simp [cantonlaw11_OwnedMoves.j2] at h⟩
 | k + 1 => by
  obtain ⟨ih0, ih1, ih2⟩ := cantonlaw11_OwnedMoves.mono_l k
  refine ⟨?_, ?_, ?_⟩
  ·intro y0 y1 y2 y3
   unfold cantonlaw11_OwnedMoves.j0
   repeat' first
   | (with_reducible exact ih0 _ _ _ _)
   | (with_reducible exact ih1 _ _ _ _ _ _)
   | (with_reducible exact ih2 _ _ _ _ _ _ _ _ _ _)
   | (with_reducible exact cantonlaw11_head.mono _)
   | (with_reducible exact cantonref01_Right.mono _ _)
   | (with_reducible exact owned_Drop.mono _ _ _ _)
   | (with_reducible exact owned_Freeze.mono _ _ _)
   | (with_reducible exact owned_Install.mono _ _ _ _)
   | (with_reducible exact owned_State.mono _ _ _)
   | (with_reducible exact LeO.refl _)
   | (with_reducible exact LeO.none _)
   | (with_reducible refine LeO.ite ?_ ?_)
   | (with_reducible refine LeO.bind ?_ (fun _ => ?_))
   | exact ih0 _ _ _ _
   | exact ih1 _ _ _ _ _ _
   | exact ih2 _ _ _ _ _ _ _ _ _ _
   | exact cantonlaw11_head.mono _
   | exact cantonref01_Right.mono _ _
   | exact owned_Drop.mono _ _ _ _
   | exact owned_Freeze.mono _ _ _
   | exact owned_Install.mono _ _ _ _
   | exact owned_State.mono _ _ _
   | exact LeO.none _
   | refine LeO.ite ?_ ?_
   | refine LeO.bind ?_ (fun _ => ?_)
  ·intro y0 y1 y2 y3 y4 y5
   unfold cantonlaw11_OwnedMoves.l0
   repeat' first
   | (with_reducible exact ih0 _ _ _ _)
   | (with_reducible exact ih1 _ _ _ _ _ _)
   | (with_reducible exact ih2 _ _ _ _ _ _ _ _ _ _)
   | (with_reducible exact cantonlaw11_head.mono _)
   | (with_reducible exact cantonref01_Right.mono _ _)
   | (with_reducible exact owned_Drop.mono _ _ _ _)
   | (with_reducible exact owned_Freeze.mono _ _ _)
   | (with_reducible exact owned_Install.mono _ _ _ _)
   | (with_reducible exact owned_State.mono _ _ _)
   | (with_reducible exact LeO.refl _)
   | (with_reducible exact LeO.none _)
   | (with_reducible refine LeO.ite ?_ ?_)
   | (with_reducible refine LeO.bind ?_ (fun _ => ?_))
   | exact ih0 _ _ _ _
   | exact ih1 _ _ _ _ _ _
   | exact ih2 _ _ _ _ _ _ _ _ _ _
   | exact cantonlaw11_head.mono _
   | exact cantonref01_Right.mono _ _
   | exact owned_Drop.mono _ _ _ _
   | exact owned_Freeze.mono _ _ _
   | exact owned_Install.mono _ _ _ _
   | exact owned_State.mono _ _ _
   | exact LeO.none _
   | refine LeO.ite ?_ ?_
   | refine LeO.bind ?_ (fun _ => ?_)
  ·intro y0 y1 y2 y3 y4 y5 y6 y7 y8 y9
   unfold cantonlaw11_OwnedMoves.j2
   repeat' first
   | (with_reducible exact ih0 _ _ _ _)
   | (with_reducible exact ih1 _ _ _ _ _ _)
   | (with_reducible exact ih2 _ _ _ _ _ _ _ _ _ _)
   | (with_reducible exact cantonlaw11_head.mono _)
   | (with_reducible exact cantonref01_Right.mono _ _)
   | (with_reducible exact owned_Drop.mono _ _ _ _)
   | (with_reducible exact owned_Freeze.mono _ _ _)
   | (with_reducible exact owned_Install.mono _ _ _ _)
   | (with_reducible exact owned_State.mono _ _ _)
   | (with_reducible exact LeO.refl _)
   | (with_reducible exact LeO.none _)
   | (with_reducible refine LeO.ite ?_ ?_)
   | (with_reducible refine LeO.bind ?_ (fun _ => ?_))
   | exact ih0 _ _ _ _
   | exact ih1 _ _ _ _ _ _
   | exact ih2 _ _ _ _ _ _ _ _ _ _
   | exact cantonlaw11_head.mono _
   | exact cantonref01_Right.mono _ _
   | exact owned_Drop.mono _ _ _ _
   | exact owned_Freeze.mono _ _ _
   | exact owned_Install.mono _ _ _ _
   | exact owned_State.mono _ _ _
   | exact LeO.none _
   | refine LeO.ite ?_ ?_
   | refine LeO.bind ?_ (fun _ => ?_)
theorem cantonlaw11_OwnedMoves.mono : ∀ a0 a1 k, LeO (cantonlaw11_OwnedMoves.f k a0 a1) (cantonlaw11_OwnedMoves.f (k + 1) a0 a1) := by
 intro a0 a1 k
 obtain ⟨ih0, ih1, ih2⟩ := cantonlaw11_OwnedMoves.mono_l k
 unfold cantonlaw11_OwnedMoves.f
 repeat' first
   | (with_reducible exact ih0 _ _ _ _)
   | (with_reducible exact ih1 _ _ _ _ _ _)
   | (with_reducible exact ih2 _ _ _ _ _ _ _ _ _ _)
   | (with_reducible exact cantonlaw11_head.mono _)
   | (with_reducible exact cantonref01_Right.mono _ _)
   | (with_reducible exact owned_Drop.mono _ _ _ _)
   | (with_reducible exact owned_Freeze.mono _ _ _)
   | (with_reducible exact owned_Install.mono _ _ _ _)
   | (with_reducible exact owned_State.mono _ _ _)
   | (with_reducible exact LeO.refl _)
   | (with_reducible exact LeO.none _)
   | (with_reducible refine LeO.ite ?_ ?_)
   | (with_reducible refine LeO.bind ?_ (fun _ => ?_))
   | exact ih0 _ _ _ _
   | exact ih1 _ _ _ _ _ _
   | exact ih2 _ _ _ _ _ _ _ _ _ _
   | exact cantonlaw11_head.mono _
   | exact cantonref01_Right.mono _ _
   | exact owned_Drop.mono _ _ _ _
   | exact owned_Freeze.mono _ _ _
   | exact owned_Install.mono _ _ _ _
   | exact owned_State.mono _ _ _
   | exact LeO.none _
   | refine LeO.ite ?_ ?_
   | refine LeO.bind ?_ (fun _ => ?_)
def cantonlaw11_OwnedMoves.T20 : Bool × List (List Nat × List Nat) := (true, [([], []), ([0], [0]), ([1], [1]), ([2, 1], [1, 2]), ([3, 1], [1, 3]), ([1], [1]), ([4, 5, 1, 1], [1, 4, 5]), ([1], [1]), ([1], [1]), ([8, 1], [1, 8]), ([9, 1], [1, 9]), ([10, 1], [1, 10]), ([7, 11, 1], [1, 7, 11]), ([12, 1], [1, 12]), ([6, 13, 1], [1, 6, 13]), ([1, 14], [1, 14]), ([15, 6, 0, 1, 2, 3, 4, 5, 6, 7, 8, 9, 10, 11, 12, 13, 14, 15], [15])])
def cantonlaw11_OwnedMoves.B20 : List Nat := [0, 1, 3, 7, 15, 3, 63, 3, 3, 259, 771, 1795, 3971, 8067, 16383, 32767, 65535]
theorem cantonlaw11_OwnedMoves.tab20 : rtab .any (opsOf Try.f7 20) = cantonlaw11_OwnedMoves.T20 := by kernel_rfl
theorem cantonlaw11_OwnedMoves.bits20 : waitsOk cantonlaw11_OwnedMoves.T20.2 cantonlaw11_OwnedMoves.B20 = true := by kernel_rfl
set_option maxHeartbeats 8000000 in
set_option maxRecDepth 100000 in
theorem cantonlaw11_OwnedMoves.calls (k : Nat) (a0 : ByteArray) (a1 : Int) (r : Bool) (w : World) (h : cantonlaw11_OwnedMoves.f k a0 a1 = some r) :
  Calls Try.prog 7 #[.string a0, .int .u8 a1] w fun e w' => e = .returned (.bool r) ∧ Below w.heap.size w w' := by
 have hu45 := Try.underlying45
 have HB := Aside0.mk (Below.refl w.heap.size w)
 have H : ((cantonlaw11_head.f k).bind fun t499 => (if (a0.size : Int) > 1000 then (cantonlaw11_OwnedMoves.j0 k a0 a1 t499 true) else ((cantonref01_Right.f k a0).bind fun t500 => (cantonlaw11_OwnedMoves.j0 k a0 a1 t499 (!t500))))) = some r := h
 clear h
 replace H := Option.bind_eq_some_iff.mp H
 obtain ⟨t499, A30, H⟩ := H
 replace H : (if (a0.size : Int) > 1000 then (cantonlaw11_OwnedMoves.j0 k a0 a1 t499 true) else ((cantonref01_Right.f k a0).bind fun t500 => (cantonlaw11_OwnedMoves.j0 k a0 a1 t499 (!t500)))) = some r := H
 have A3 := Aside0.mk A30
 clear A30
 have HC4 := Aside0.mk H
 clear H
 go_enter Try.func7, Try.ntmps7
 go_upto_region 2 with (first | ((with_reducible refine gate_callee (f := 9) rfl ?_); refine gL (some 16) Try.func9 #[] rfl rfl ?_; (with_reducible refine (cantonlaw11_head.calls k  t499 _ A3.out).mono ?_); rintro e w5 ⟨rfl, hb⟩; refine ⟨_, rfl, ?_⟩; have n0_ := Aside0.mk (below_step (kZ HB) hb); clear HB; have HB := n0_; clear n0_; (try clear hb); (try clear hb2); (try clear hk); (try clear hi)))
 (try simp only [Act.put, List.setIfInBounds_toArray, List.set_cons_zero, List.set_cons_succ])
 go_cut [24] (fun v24 wc => ∃ (kq : Nat) (x24_3 : Bool), v24 = .bool x24_3 ∧ Aside0 (cantonlaw11_OwnedMoves.j0 kq a0 a1 t499 x24_3 = some r) ∧ Aside0 (kq ≤ k) ∧ Aside0 (Below w.heap.size w wc))
 case first =>
  have H := HC4.out
  clear HC4
  by_cases c6 : (a0.size : Int) > 1000
  ·rw [if_pos c6] at H
   have c6b0 : decide (1000 < (a0.size : Int)) = true := decide_eq_true c6
   have c6b1 : decide (1000 < a0.size) = true := decide_eq_true (by omega)
   clear c6
   (first | rw [c6b0] | (simp only [i64_w, i32_w]; rw [c6b0]) | skip)
   have H' := Aside0.mk H
   clear H
   go_wp2
   go_meet
   case rel => exact ⟨_, (true), (by first | rfl | (simp; done) | (simp [*]; done)), H', ⟨by first | omega | exact Nat.le_refl _⟩, ⟨kZ HB⟩⟩
  ·rw [if_neg c6] at H
   have c6b0 : decide (1000 < (a0.size : Int)) = false := decide_eq_false c6
   have c6b1 : decide (1000 < a0.size) = false := decide_eq_false (by omega)
   clear c6
   (first | rw [c6b0] | (simp only [i64_w, i32_w]; rw [c6b0]) | skip)
   replace H := Option.bind_eq_some_iff.mp H
   obtain ⟨t500, A70, H⟩ := H
   replace H : (cantonlaw11_OwnedMoves.j0 k a0 a1 t499 (!t500)) = some r := H
   have A7 := Aside0.mk A70
   clear A70
   have H' := Aside0.mk H
   clear H
   go_wp2_with (first | (go_at_call 29; (with_reducible refine (cantonref01_Right.calls k a0 t500 _ A7.out).mono ?_); rintro e w8 ⟨rfl, hb⟩; have n0_ := Aside0.mk (below_step (kZ HB) hb); clear HB; have HB := n0_; clear n0_; (try clear hb); (try clear hb2); (try clear hk); (try clear hi)))
   go_meet
   case rel => exact ⟨_, (!t500), (by first | rfl | (simp; done) | (simp [*]; done)), H', ⟨by first | omega | exact Nat.le_refl _⟩, ⟨kZ HB⟩⟩
 case rest =>
  clear HC4
  try clear p2
  try clear c6
  try clear c6b0
  try clear c6b1
  try clear c7
  obtain ⟨kq, x24_3, rfl, HA, HJ3, HB⟩ := hcut
  cases kq with
  | zero => exact absurd HA.out (by simp [cantonlaw11_OwnedMoves.j0])
  | succ kj3 =>
   have H := HA.out
   clear HA
   simp only [cantonlaw11_OwnedMoves.j0] at H
   by_cases c9 : x24_3 = true
   ·subst c9
    have H1 : (some t499) = some r := by rw [if_pos rfl] at H; exact H
    clear H
    have H := H1
    clear H1
    obtain rfl := Option.some.inj H
    go_wp2
    go_ret
    exact ⟨by first | rfl | (simp [errW_none, errW_some] <;> rfl) | (simp [*, errW_none, errW_some] <;> rfl), kZ HB⟩
   ·replace c9 := Bool.eq_false_iff.mpr c9
    subst c9
    have H1 : (cantonlaw11_OwnedMoves.l0 kj3 a0 a1 t499 (([(([(⟨(⟨#[47]⟩ : ByteArray), 1, 1⟩ : S45)] : List (S45))), (([(⟨(⟨#[47]⟩ : ByteArray), 1, 3⟩ : S45)] : List (S45)))] : List (List (S45)))) 1 0) = some r := by rw [if_neg (show ¬ (false = true) by decide)] at H; exact H
    clear H
    have H := H1
    clear H1
    obtain ⟨y501, hy501⟩ : ∃ y_ : List (S45), y_ = (([(⟨(⟨#[47]⟩ : ByteArray), 1, 1⟩ : S45)] : List (S45))) := ⟨_, rfl⟩
    replace H : (cantonlaw11_OwnedMoves.l0 kj3 a0 a1 t499 (([y501, (([(⟨(⟨#[47]⟩ : ByteArray), 1, 3⟩ : S45)] : List (S45)))] : List (List (S45)))) 1 0) = some r := by first | (rw [hy501]; with_reducible exact H) | (have H2_ := (Option.bind_some _ _).symm.trans H; rw [hy501]; with_reducible exact H2_) | (have H2_ := (Option.bind_some _ _).symm.trans H; with_reducible exact H2_) | with_reducible exact H | (rw [hy501]; exact H) | exact H
    have Ny501 := Aside0.mk hy501
    clear hy501
    obtain ⟨y504, hy504⟩ : ∃ y_ : List (S45), y_ = (([(⟨(⟨#[47]⟩ : ByteArray), 1, 3⟩ : S45)] : List (S45))) := ⟨_, rfl⟩
    replace H : (cantonlaw11_OwnedMoves.l0 kj3 a0 a1 t499 (([y501, y504] : List (List (S45)))) 1 0) = some r := by first | (rw [hy504]; with_reducible exact H) | (have H2_ := (Option.bind_some _ _).symm.trans H; rw [hy504]; with_reducible exact H2_) | (have H2_ := (Option.bind_some _ _).symm.trans H; with_reducible exact H2_) | with_reducible exact H | (rw [hy504]; exact H) | exact H
    have Ny504 := Aside0.mk hy504
    clear hy504
    obtain ⟨y507, hy507⟩ : ∃ y_ : List (List (S45)), y_ = (([y501, y504] : List (List (S45)))) := ⟨_, rfl⟩
    replace H : (cantonlaw11_OwnedMoves.l0 kj3 a0 a1 t499 y507 1 0) = some r := by first | (rw [hy507]; with_reducible exact H) | (have H2_ := (Option.bind_some _ _).symm.trans H; rw [hy507]; with_reducible exact H2_) | (have H2_ := (Option.bind_some _ _).symm.trans H; with_reducible exact H2_) | with_reducible exact H | (rw [hy507]; exact H) | exact H
    have Ny507 := Aside0.mk hy507
    clear hy507
    have H' := Aside0.mk H
    clear H
    go_wp2_with (first | ((with_reducible refine gate_dst (N := 27) rfl ?_); (try (refine gate_guard (by rfl) ?_; dsimp only)); refine Kd.R_lit k45 _ 45 ?hg (N := 27) ?hd (xs := ([(⟨(⟨#[47]⟩ : ByteArray), 1, 1⟩ : S45)] : List (S45))) (inner := [.string (⟨#[47]⟩ : ByteArray), .int .i64 1, .int .i64 1]) (ok := fun _ => True) (okp := fun _ => True) ?hr ?hp (fun _ hk => hk) trivial (Below.refl _ _) (Nat.le_refl _) (by simp) ?_; (case hd => rfl); (case hg => rfl); (case hr => first | (go_simp; done) | (go_simp; rfl)); (case hp => exact (Reps.c3 (show Kd.M k45 _ _ _ (⟨(⟨#[47]⟩ : ByteArray), 1, 1⟩ : S45) [.string (⟨#[47]⟩ : ByteArray), .int .i64 1, .int .i64 1] from (k45_mkM _ _ _ (⟨(⟨#[47]⟩ : ByteArray), 1, 1⟩ : S45) )) (Reps.none _ _))); intro v502 w10 ho11 hb hg_ hnew_; clear hg_ hnew_; (first | rw [← Ny501.out] at ho11 | (simp only [Int.reduceToNat] at ho11; rw [← Ny501.out] at ho11)); have n0_ := Aside0.mk (Kd.R_lower ho11 (below_size (kZ HB))); have n1_ := Aside0.mk (below_step (kZ HB) hb); clear HB; have HO503 := n0_; have HB := n1_; clear n0_ n1_; clear hb ho11) | ((with_reducible refine gate_dst (N := 29) rfl ?_); (try (refine gate_guard (by rfl) ?_; dsimp only)); refine Kd.R_lit k45 _ 45 ?hg (N := 29) ?hd (xs := ([(⟨(⟨#[47]⟩ : ByteArray), 1, 3⟩ : S45)] : List (S45))) (inner := [.string (⟨#[47]⟩ : ByteArray), .int .i64 1, .int .i64 3]) (ok := fun _ => True) (okp := fun _ => True) ?hr ?hp (fun _ hk => hk) trivial (Below.refl _ _) (Nat.le_refl _) (by simp) ?_; (case hd => rfl); (case hg => rfl); (case hr => first | (go_simp; done) | (go_simp; rfl)); (case hp => exact (Reps.c3 (show Kd.M k45 _ _ _ (⟨(⟨#[47]⟩ : ByteArray), 1, 3⟩ : S45) [.string (⟨#[47]⟩ : ByteArray), .int .i64 1, .int .i64 3] from (k45_mkM _ _ _ (⟨(⟨#[47]⟩ : ByteArray), 1, 3⟩ : S45) )) (Reps.none _ _))); intro v505 w12 ho13 hb hg_ hnew_; clear hg_ hnew_; (first | rw [← Ny504.out] at ho13 | (simp only [Int.reduceToNat] at ho13; rw [← Ny504.out] at ho13)); have n0_ := Aside0.mk (Kd.R_elder' (kR HO503) (Kd.R_base ho13) hb); have n1_ := Aside0.mk (Kd.R_lower (Kd.R_new' ho13 (Kd.R_lt (kR HO503))) (below_size (kZ HB))); have n2_ := Aside0.mk (below_step (kZ HB) hb); clear HO503; clear HB; have HO503 := n0_; have HO506 := n1_; have HB := n2_; clear n0_ n1_ n2_; clear hb ho13; obtain ⟨Ao14, co14, eo14⟩ := Kd.R_slice HO503.out; subst eo14; obtain ⟨Ao15, co15, eo15⟩ := Kd.R_slice HO506.out; subst eo15) | ((with_reducible refine gate_dst (N := 30) rfl ?_); (try (refine gate_guard (by rfl) ?_; dsimp only)); refine Kd.N_lit (Kd.slice 45 k45) _ 22 ?hg (N' := 30) ?hd (xs := ([y501, y504] : List (List (S45)))) (inner := [.slice Ao14 y501.length co14, .slice Ao15 y504.length co15]) (ok := (fun _ => True)) (okp := (fun _ => True)) ?hr ?hp (fun _ hk => hk) ((show ∀ k_, w12.heap.size ≤ k_ → (fun _ => True) k_ from fun k_ hk => trivial) _ (Nat.le_refl _)) (Below.refl _ _) (Nat.le_refl _) (by simp) ?_; (case hd => rfl); (case hg => rfl); (case hr => first | (go_simp; done) | (go_simp; rfl)); (case hp => exact (Reps.one (show Kd.FK (Kd.slice 45 k45) _ _ y501 [.slice Ao14 y501.length co14] from (Kd.FK_slice_mk (Kd.R_reads' (Kd.R_mono (ok' := (fun _ => True)) (HO503.out) (fun k_ hk => trivial))).2.1 (Kd.R_F (Kd.R_mono (ok' := (fun _ => True)) (HO503.out) (fun k_ hk => trivial))))) (Reps.one (show Kd.FK (Kd.slice 45 k45) _ _ y504 [.slice Ao15 y504.length co15] from (Kd.FK_slice_mk (Kd.R_reads' (Kd.R_mono (ok' := (fun _ => True)) (HO506.out) (fun k_ hk => trivial))).2.1 (Kd.R_F (Kd.R_mono (ok' := (fun _ => True)) (HO506.out) (fun k_ hk => trivial))))) (Reps.none _ _)))); intro v508 w16 ho17 hb hg_ hnew_; clear hg_ hnew_; (first | rw [← Ny507.out] at ho17 | (simp only [Int.reduceToNat] at ho17; rw [← Ny507.out] at ho17)); have n0_ := Aside0.mk (Kd.N_lower ho17 (below_size (kZ HB))); have n1_ := Aside0.mk (below_step (kZ HB) hb); clear HB; clear HO503; clear HO506; have HO509 := n0_; have HB := n1_; clear n0_ n1_; clear hb ho17))
    go_loopg [7, 8] kj3 (fun kq v7 v8 w' => ∃ (x6_2 : List (List (S45))) (x7_2 : Int) (x8_2 : Int), v7 = .int .i64 x7_2 ∧ v8 = .int .i64 x8_2 ∧ Aside0 (cantonlaw11_OwnedMoves.l0 kq a0 a1 t499 x6_2 x7_2 x8_2 = some r) ∧ Aside0 (kq ≤ kj3) ∧ Aside0 (Kd.N (Kd.slice 45 k45) 22 w' w.heap.size (fun _ => True) v508 x6_2) ∧ Aside0 (Below w.heap.size w w'))
    case atStart => exact ⟨(y507), (1), (0), (by first | rfl | (simp; done) | (simp [*]; done)), (by first | rfl | (simp; done) | (simp [*]; done)), H', ⟨Nat.le_refl _⟩, ⟨by (with_reducible repeat (first | apply Kd.N_alloc | apply Kd.N_drewN | apply Kd.N_drew)); exact HO509.out⟩, ⟨kZ HB⟩⟩
    case round =>
     clear H'
     try clear p2
     try clear c3
     try clear c6
     try clear c6b0
     try clear c6b1
     try clear c7
     try clear c9
     try clear p2
     obtain ⟨x6_2, x7_2, x8_2, rfl, rfl, HA, HK2, HO_6, HB⟩ := hrel
     cases gk with
     | zero => exact absurd HA.out (by simp [cantonlaw11_OwnedMoves.l0])
     | succ k2 =>
      have H := HA.out
      clear HA
      simp only [cantonlaw11_OwnedMoves.l0] at H
      by_cases c18 : x8_2 < (wrap64 (Int.tmod a1 20))
      ·rw [if_pos c18] at H
       have c18b0 : decide (x8_2 < (wrap64 (Int.tmod a1 20))) = true := decide_eq_true c18
       clear c18
       obtain ⟨ji19, hji19⟩ : ∃ j_ : Int, (Int.tmod x8_2 2) = j_ := ⟨_, rfl⟩
       replace H : (if 0 ≤ (ji19) then (if (ji19) < (x6_2.length : Int) then ((owned_Freeze.f k2 (rd_L5 x6_2 (ji19)) a0).bind fun bt517 => (if 0 ≤ (wrap64 (1 - (ji19))) then (if (wrap64 (1 - (ji19))) < (x6_2.length : Int) then ((owned_Install.f k2 (rd_L5 x6_2 (wrap64 (1 - (ji19)))) a0 (wrap64 (x7_2 + 1))).bind fun bt522 => (if bt517.2 = true then (if bt522.2 = true then ((owned_State.f k2 bt517.1 a0).bind fun t526 => (if t526 = 2 then ((owned_State.f k2 bt522.1 a0).bind fun t527 => (cantonlaw11_OwnedMoves.j2 k2 a0 a1 t499 x6_2 x7_2 x8_2 ji19 bt517.1 bt522.1 (t527 != 1))) else (cantonlaw11_OwnedMoves.j2 k2 a0 a1 t499 x6_2 x7_2 x8_2 ji19 bt517.1 bt522.1 true))) else (cantonlaw11_OwnedMoves.j2 k2 a0 a1 t499 x6_2 x7_2 x8_2 ji19 bt517.1 bt522.1 true)) else (cantonlaw11_OwnedMoves.j2 k2 a0 a1 t499 x6_2 x7_2 x8_2 ji19 bt517.1 bt522.1 true))) else (none)) else (none))) else (none)) else (none)) = some r := by first | (rw [hji19] at H; exact H) | (simp only [hji19] at H ⊢; exact H)
       by_cases c20 : 0 ≤ (ji19)
       ·rw [if_pos c20] at H
        have c20b0 : decide (0 ≤ (ji19)) = true := decide_eq_true c20
        clear c20
        by_cases c21 : (ji19) < (x6_2.length : Int)
        ·rw [if_pos c21] at H
         have c21b0 : decide ((ji19) < (x6_2.length : Int)) = true := decide_eq_true c21
         clear c21
         replace H := Option.bind_eq_some_iff.mp H
         obtain ⟨⟨t517, t518⟩, A220, H⟩ := H
         replace H : (if 0 ≤ (wrap64 (1 - (ji19))) then (if (wrap64 (1 - (ji19))) < (x6_2.length : Int) then ((owned_Install.f k2 (rd_L5 x6_2 (wrap64 (1 - (ji19)))) a0 (wrap64 (x7_2 + 1))).bind fun bt522 => (if t518 = true then (if bt522.2 = true then ((owned_State.f k2 t517 a0).bind fun t526 => (if t526 = 2 then ((owned_State.f k2 bt522.1 a0).bind fun t527 => (cantonlaw11_OwnedMoves.j2 k2 a0 a1 t499 x6_2 x7_2 x8_2 ji19 t517 bt522.1 (t527 != 1))) else (cantonlaw11_OwnedMoves.j2 k2 a0 a1 t499 x6_2 x7_2 x8_2 ji19 t517 bt522.1 true))) else (cantonlaw11_OwnedMoves.j2 k2 a0 a1 t499 x6_2 x7_2 x8_2 ji19 t517 bt522.1 true)) else (cantonlaw11_OwnedMoves.j2 k2 a0 a1 t499 x6_2 x7_2 x8_2 ji19 t517 bt522.1 true))) else (none)) else (none)) = some r := H
         have A22 := Aside0.mk A220
         clear A220
         obtain ⟨ji23, hji23⟩ : ∃ j_ : Int, (wrap64 (1 - (ji19))) = j_ := ⟨_, rfl⟩
         replace H : (if 0 ≤ (ji23) then (if (ji23) < (x6_2.length : Int) then ((owned_Install.f k2 (rd_L5 x6_2 (ji23)) a0 (wrap64 (x7_2 + 1))).bind fun bt522 => (if t518 = true then (if bt522.2 = true then ((owned_State.f k2 t517 a0).bind fun t526 => (if t526 = 2 then ((owned_State.f k2 bt522.1 a0).bind fun t527 => (cantonlaw11_OwnedMoves.j2 k2 a0 a1 t499 x6_2 x7_2 x8_2 ji19 t517 bt522.1 (t527 != 1))) else (cantonlaw11_OwnedMoves.j2 k2 a0 a1 t499 x6_2 x7_2 x8_2 ji19 t517 bt522.1 true))) else (cantonlaw11_OwnedMoves.j2 k2 a0 a1 t499 x6_2 x7_2 x8_2 ji19 t517 bt522.1 true)) else (cantonlaw11_OwnedMoves.j2 k2 a0 a1 t499 x6_2 x7_2 x8_2 ji19 t517 bt522.1 true))) else (none)) else (none)) = some r := by first | (rw [hji23] at H; exact H) | (simp only [hji23] at H ⊢; exact H)
         (try rw [hji23] at A22)
         have hji23w : (IntKind.i64.wrap (1 - (ji19))) = ji23 := (i64_w _).trans hji23
         by_cases c24 : 0 ≤ (ji23)
         ·rw [if_pos c24] at H
          have c24b0 : decide (0 ≤ (ji23)) = true := decide_eq_true c24
          clear c24
          by_cases c25 : (ji23) < (x6_2.length : Int)
          ·rw [if_pos c25] at H
           have c25b0 : decide ((ji23) < (x6_2.length : Int)) = true := decide_eq_true c25
           clear c25
           replace H := Option.bind_eq_some_iff.mp H
           obtain ⟨⟨t522, t523⟩, A260, H⟩ := H
           replace H : (if t518 = true then (if t523 = true then ((owned_State.f k2 t517 a0).bind fun t526 => (if t526 = 2 then ((owned_State.f k2 t522 a0).bind fun t527 => (cantonlaw11_OwnedMoves.j2 k2 a0 a1 t499 x6_2 x7_2 x8_2 ji19 t517 t522 (t527 != 1))) else (cantonlaw11_OwnedMoves.j2 k2 a0 a1 t499 x6_2 x7_2 x8_2 ji19 t517 t522 true))) else (cantonlaw11_OwnedMoves.j2 k2 a0 a1 t499 x6_2 x7_2 x8_2 ji19 t517 t522 true)) else (cantonlaw11_OwnedMoves.j2 k2 a0 a1 t499 x6_2 x7_2 x8_2 ji19 t517 t522 true)) = some r := H
           have A26 := Aside0.mk A260
           clear A260
           have HC27 := Aside0.mk H
           clear H
           obtain ⟨Ao28, co28, eo28⟩ := Kd.N_slice HO_6.out
           subst eo28
           have p516 : 0 ≤ ((ji19) : Int) := of_decide_eq_true (by first | (with_reducible assumption) | assumption)
           have q516 : (ji19) < (x6_2.length : Int) := of_decide_eq_true (by first | (with_reducible assumption) | assumption)
           obtain ⟨ad516, A516_0, c516_0, e516, hx516_0, hl516_0, hi516_0⟩ := at_L5 (Kd.N_reads' HO_6.out).2.2 (ji19) p516 q516
           cases e516
           obtain ⟨ce516, hce516, hMe516, hcc516⟩ := Kd.N_get HO_6.out [] (ji19) p516 (by first | exact q516 | exact of_decide_eq_true (by first | (with_reducible assumption) | assumption) | (have e_ := (Kd.N_reads' HO_6.out).1; omega))
           obtain ⟨ua516_0, uc516_0, rfl, ul516_0, ge516_0⟩ := Kd.FK_slice_open hMe516
           have hv516_0 := hcc516 0 _ rfl
           rw [Nat.add_zero, show ((Kd.slice 45 k45)).sz = 1 from rfl, Nat.mul_one] at hv516_0
           replace hv516_0 := Option.some.inj (hv516_0.symm.trans hx516_0)
           injection hv516_0 with hva_ hvn_ hvc_
           rw [hva_] at ge516_0
           rw [hvc_] at ul516_0
           have HL516_0 := Aside0.mk (show Kd.V k45 45 _ w.heap.size _ _ (rd_L5 x6_2 (ji19)) from Kd.V_mk ul516_0 ge516_0)
           clear hva_ hvn_ hvc_ ge516_0 ul516_0
           clear hcc516 hce516
           have HR516_0 := Aside0.mk hi516_0
           have HC516_0 := Aside0.mk hl516_0
           clear hi516_0 hl516_0
           replace p516 := eq_true p516
           replace q516 := eq_true q516
           go_upto_region 12 with (first | ((with_reducible refine gate_callee (f := 11) rfl ?_); refine goesL_ (some 46) rfl rfl Try.func11 (by kernel_rfl) rfl #[.slice A516_0 (rd_L5 x6_2 (ji19)).length c516_0, .string a0] rfl (by (try simp only [List.map_toArray, List.map_cons, List.map_nil]); first | done | (simp only [hji19]; rfl) | rfl | (simp only [List.length_drop, List.length_take]; rfl)) ?_; (with_reducible refine (owned_Freeze.calls k2 _ _ (rd_L5 x6_2 (ji19)) a0 t517 t518 _ ?side1 ?side2 A22.out).mono ?_); (case side1 => repeat (first | exact (by repeat (first | (with_reducible exact HR516_0.out) | (with_reducible refine Kd.C_alloc ?_ _) | (with_reducible refine Kd.C_drewN ?_ _) | (with_reducible refine Kd.C_drew ?_) | exact HR516_0.out)) | (with_reducible refine Kd.C_alloc ?_ _) | (with_reducible refine Kd.C_drewN ?_ _) | (with_reducible refine Kd.C_drew ?_))); (case side2 => exact HC516_0.out); rintro e w29 ⟨v519, rfl, ho0, hb⟩; refine ⟨_, rfl, ?_⟩; have n0_ := Aside0.mk (Kd.N_elder' (by (with_reducible repeat (first | apply Kd.N_alloc | apply Kd.N_drewN | apply Kd.N_drew)); exact HO_6.out) (Kd.R_base ho0) hb); have n1_ := Aside0.mk (Kd.V_elder' (by (with_reducible repeat (first | apply Kd.V_alloc | apply Kd.V_drewN | apply Kd.V_drew)); exact HL516_0.out) (Kd.R_base ho0) hb); have n2_ := Aside0.mk (Kd.R_lower ho0 (below_size (kZ HB))); have n3_ := Aside0.mk (Kd.C_below (by repeat (first | (with_reducible exact HR516_0.out) | (with_reducible refine Kd.C_alloc ?_ _) | (with_reducible refine Kd.C_drewN ?_ _) | (with_reducible refine Kd.C_drew ?_) | exact HR516_0.out)) hb); have n4_ := Aside0.mk (below_step (kZ HB) hb); clear HO_6; clear HL516_0; clear HR516_0; clear HB; have HO_6 := n0_; have HL516_0 := n1_; have HO520 := n2_; have HR516_0 := n3_; have HB := n4_; clear n0_ n1_ n2_ n3_ n4_; (try clear hb); (try clear hb2); (try clear hk); (try clear hi); (try clear ho0); have p521 : 0 ≤ ((ji23) : Int) := of_decide_eq_true (by first | (with_reducible assumption) | assumption); have q521 : (ji23) < (x6_2.length : Int) := of_decide_eq_true (by first | (with_reducible assumption) | assumption); obtain ⟨ad521, A521_0, c521_0, e521, hx521_0, hl521_0, hi521_0⟩ := at_L5 (Kd.N_reads' HO_6.out).2.2 (ji23) p521 q521; obtain rfl : ad516 = ad521 := (by injection e521); obtain ⟨ce521, hce521, hMe521, hcc521⟩ := Kd.N_get HO_6.out [] (ji23) p521 (by first | exact q521 | exact of_decide_eq_true (by first | (with_reducible assumption) | assumption) | (have e_ := (Kd.N_reads' HO_6.out).1; omega)); obtain ⟨ua521_0, uc521_0, rfl, ul521_0, ge521_0⟩ := Kd.FK_slice_open hMe521; have hv521_0 := hcc521 0 _ rfl; rw [Nat.add_zero, show ((Kd.slice 45 k45)).sz = 1 from rfl, Nat.mul_one] at hv521_0; replace hv521_0 := Option.some.inj (hv521_0.symm.trans hx521_0); injection hv521_0 with hva_ hvn_ hvc_; rw [hva_] at ge521_0; rw [hvc_] at ul521_0; have HL521_0 := Aside0.mk (show Kd.V k45 45 _ w.heap.size _ _ (rd_L5 x6_2 (ji23)) from Kd.V_mk ul521_0 ge521_0); clear hva_ hvn_ hvc_ ge521_0 ul521_0; clear hcc521 hce521; have HR521_0 := Aside0.mk hi521_0; have HC521_0 := Aside0.mk hl521_0; clear hi521_0 hl521_0; replace p521 := eq_true p521; replace q521 := eq_true q521) | ((with_reducible refine gate_callee (f := 13) rfl ?_); refine goesL_ (some 58) rfl rfl Try.func13 (by kernel_rfl) rfl #[.slice A521_0 (rd_L5 x6_2 (ji23)).length c521_0, .string a0, .int .i64 (wrap64 (x7_2 + 1))] rfl (by (try simp only [List.map_toArray, List.map_cons, List.map_nil]); first | done | (simp only [hji23]; rfl) | rfl | (simp only [List.length_drop, List.length_take]; rfl)) ?_; (with_reducible refine (owned_Install.calls k2 _ _ (rd_L5 x6_2 (ji23)) a0 (wrap64 (x7_2 + 1)) t522 t523 _ ?side1 ?side2 A26.out).mono ?_); (case side1 => repeat (first | exact (by repeat (first | (with_reducible exact HR521_0.out) | (with_reducible refine Kd.C_alloc ?_ _) | (with_reducible refine Kd.C_drewN ?_ _) | (with_reducible refine Kd.C_drew ?_) | exact HR521_0.out)) | (with_reducible refine Kd.C_alloc ?_ _) | (with_reducible refine Kd.C_drewN ?_ _) | (with_reducible refine Kd.C_drew ?_))); (case side2 => exact HC521_0.out); rintro e w30 ⟨v524, rfl, ho0, hb⟩; refine ⟨_, rfl, ?_⟩; have n0_ := Aside0.mk (Kd.N_elder' (by (with_reducible repeat (first | apply Kd.N_alloc | apply Kd.N_drewN | apply Kd.N_drew)); exact HO_6.out) (Kd.R_base ho0) hb); have n1_ := Aside0.mk (Kd.V_elder' (by (with_reducible repeat (first | apply Kd.V_alloc | apply Kd.V_drewN | apply Kd.V_drew)); exact HL516_0.out) (Kd.R_base ho0) hb); have n2_ := Aside0.mk (Kd.R_elder' (kR HO520) (Kd.R_base ho0) hb); have n3_ := Aside0.mk (Kd.V_elder' (by (with_reducible repeat (first | apply Kd.V_alloc | apply Kd.V_drewN | apply Kd.V_drew)); exact HL521_0.out) (Kd.R_base ho0) hb); have n4_ := Aside0.mk (Kd.R_lower (Kd.R_new' ho0 (Kd.R_lt (kR HO520))) (below_size (kZ HB))); have n5_ := Aside0.mk (Kd.C_below (by repeat (first | (with_reducible exact HR516_0.out) | (with_reducible refine Kd.C_alloc ?_ _) | (with_reducible refine Kd.C_drewN ?_ _) | (with_reducible refine Kd.C_drew ?_) | exact HR516_0.out)) hb); have n6_ := Aside0.mk (Kd.C_below (by repeat (first | (with_reducible exact HR521_0.out) | (with_reducible refine Kd.C_alloc ?_ _) | (with_reducible refine Kd.C_drewN ?_ _) | (with_reducible refine Kd.C_drew ?_) | exact HR521_0.out)) hb); have n7_ := Aside0.mk (below_step (kZ HB) hb); clear HO_6; clear HL516_0; clear HO520; clear HL521_0; clear HR516_0; clear HR521_0; clear HB; have HO_6 := n0_; have HL516_0 := n1_; have HO520 := n2_; have HL521_0 := n3_; have HO525 := n4_; have HR516_0 := n5_; have HR521_0 := n6_; have HB := n7_; clear n0_ n1_ n2_ n3_ n4_ n5_ n6_ n7_; (try clear hb); (try clear hb2); (try clear hk); (try clear hi); (try clear ho0)))
           (try simp only [Act.put, List.setIfInBounds_toArray, List.set_cons_zero, List.set_cons_succ])
           go_cut [78] (fun v78 wc => ∃ (kq : Nat) (x78_26 : Bool), v78 = .bool x78_26 ∧ Aside0 (cantonlaw11_OwnedMoves.j2 kq a0 a1 t499 x6_2 x7_2 x8_2 ji19 t517 t522 x78_26 = some r) ∧ Aside0 (kq ≤ k2) ∧ Aside0 (Kd.N (Kd.slice 45 k45) 22 wc w.heap.size (fun k_ => some k_ ≠ (v519 : Value).ownBlock ∧ some k_ ≠ (v524 : Value).ownBlock) (.slice (some ad516) x6_2.length co28) x6_2) ∧ Aside0 (Kd.R k45 45 wc w.heap.size (fun k_ => some k_ ≠ (v524 : Value).ownBlock) v519 t517) ∧ Aside0 (Kd.R k45 45 wc w.heap.size (fun k_ => some k_ ≠ (v519 : Value).ownBlock) v524 t522) ∧ Aside0 (Kd.C k45 wc A516_0 (rd_L5 x6_2 (ji19)).length (rd_L5 x6_2 (ji19))) ∧ Aside0 (Kd.C k45 wc A521_0 (rd_L5 x6_2 (ji23)).length (rd_L5 x6_2 (ji23))) ∧ Aside0 (Below w.heap.size w wc))
           case first =>
            have H := HC27.out
            clear HC27
            by_cases c31 : t518 = true
            ·subst c31
             have H1 : (if t523 = true then ((owned_State.f k2 t517 a0).bind fun t526 => (if t526 = 2 then ((owned_State.f k2 t522 a0).bind fun t527 => (cantonlaw11_OwnedMoves.j2 k2 a0 a1 t499 x6_2 x7_2 x8_2 ji19 t517 t522 (t527 != 1))) else (cantonlaw11_OwnedMoves.j2 k2 a0 a1 t499 x6_2 x7_2 x8_2 ji19 t517 t522 true))) else (cantonlaw11_OwnedMoves.j2 k2 a0 a1 t499 x6_2 x7_2 x8_2 ji19 t517 t522 true)) = some r := by rw [if_pos rfl] at H; exact H
             clear H
             have H := H1
             clear H1
             by_cases c32 : t523 = true
             ·subst c32
              have H1 : ((owned_State.f k2 t517 a0).bind fun t526 => (if t526 = 2 then ((owned_State.f k2 t522 a0).bind fun t527 => (cantonlaw11_OwnedMoves.j2 k2 a0 a1 t499 x6_2 x7_2 x8_2 ji19 t517 t522 (t527 != 1))) else (cantonlaw11_OwnedMoves.j2 k2 a0 a1 t499 x6_2 x7_2 x8_2 ji19 t517 t522 true))) = some r := by rw [if_pos rfl] at H; exact H
              clear H
              have H := H1
              clear H1
              replace H := Option.bind_eq_some_iff.mp H
              obtain ⟨t526, A330, H⟩ := H
              replace H : (if t526 = 2 then ((owned_State.f k2 t522 a0).bind fun t527 => (cantonlaw11_OwnedMoves.j2 k2 a0 a1 t499 x6_2 x7_2 x8_2 ji19 t517 t522 (t527 != 1))) else (cantonlaw11_OwnedMoves.j2 k2 a0 a1 t499 x6_2 x7_2 x8_2 ji19 t517 t522 true)) = some r := H
              have A33 := Aside0.mk A330
              clear A330
              by_cases c34 : t526 = 2
              ·rw [if_pos c34] at H
               have c34b0 : (t526 == 2) = true := beq_iff_eq.mpr c34
               have c34b1 : (t526 != 2) = false := bne_eq_false_iff_eq.mpr c34
               clear c34
               (first | rw [c34b0] | (simp only [i64_w, i32_w]; rw [c34b0]) | skip)
               replace H := Option.bind_eq_some_iff.mp H
               obtain ⟨t527, A350, H⟩ := H
               replace H : (cantonlaw11_OwnedMoves.j2 k2 a0 a1 t499 x6_2 x7_2 x8_2 ji19 t517 t522 (t527 != 1)) = some r := H
               have A35 := Aside0.mk A350
               clear A350
               have H' := Aside0.mk H
               clear H
               obtain ⟨Ao36, co36, eo36⟩ := Kd.R_slice HO520.out
               subst eo36
               go_wp2_with (first | (go_at_call 21; (with_reducible refine (owned_State.calls k2 _ _ t517 a0 t526 _ ?side1 ?side2 A33.out).mono ?_); (case side1 => exact kC ((Kd.R_reads' HO520.out).2.2)); (case side2 => exact (Kd.R_reads' HO520.out).2.1); rintro e w37 ⟨rfl, hb⟩; have n0_ := Aside0.mk (Kd.N_below (by (with_reducible repeat (first | apply Kd.N_alloc | apply Kd.N_drewN | apply Kd.N_drew)); exact HO_6.out) hb); have n1_ := Aside0.mk (Kd.V_below (by (with_reducible repeat (first | apply Kd.V_alloc | apply Kd.V_drewN | apply Kd.V_drew)); exact HL516_0.out) hb); have n2_ := Aside0.mk (Kd.R_below (kR HO520) hb); have n3_ := Aside0.mk (Kd.V_below (by (with_reducible repeat (first | apply Kd.V_alloc | apply Kd.V_drewN | apply Kd.V_drew)); exact HL521_0.out) hb); have n4_ := Aside0.mk (Kd.R_below (kR HO525) hb); have n5_ := Aside0.mk (Kd.C_below (by repeat (first | (with_reducible exact HR516_0.out) | (with_reducible refine Kd.C_alloc ?_ _) | (with_reducible refine Kd.C_drewN ?_ _) | (with_reducible refine Kd.C_drew ?_) | exact HR516_0.out)) hb); have n6_ := Aside0.mk (Kd.C_below (by repeat (first | (with_reducible exact HR521_0.out) | (with_reducible refine Kd.C_alloc ?_ _) | (with_reducible refine Kd.C_drewN ?_ _) | (with_reducible refine Kd.C_drew ?_) | exact HR521_0.out)) hb); have n7_ := Aside0.mk (below_step (kZ HB) hb); clear HO_6; clear HL516_0; clear HO520; clear HL521_0; clear HO525; clear HR516_0; clear HR521_0; clear HB; have HO_6 := n0_; have HL516_0 := n1_; have HO520 := n2_; have HL521_0 := n3_; have HO525 := n4_; have HR516_0 := n5_; have HR521_0 := n6_; have HB := n7_; clear n0_ n1_ n2_ n3_ n4_ n5_ n6_ n7_; (try clear hb); (try clear hb2); (try clear hk); (try clear hi); obtain ⟨Ao38, co38, eo38⟩ := Kd.R_slice HO525.out; subst eo38) | (go_at_call 21; (with_reducible refine (owned_State.calls k2 _ _ t522 a0 t527 _ ?side1 ?side2 A35.out).mono ?_); (case side1 => exact kC ((Kd.R_reads' HO525.out).2.2)); (case side2 => exact (Kd.R_reads' HO525.out).2.1); rintro e w39 ⟨rfl, hb⟩; have n0_ := Aside0.mk (Kd.N_below (by (with_reducible repeat (first | apply Kd.N_alloc | apply Kd.N_drewN | apply Kd.N_drew)); exact HO_6.out) hb); have n1_ := Aside0.mk (Kd.V_below (by (with_reducible repeat (first | apply Kd.V_alloc | apply Kd.V_drewN | apply Kd.V_drew)); exact HL516_0.out) hb); have n2_ := Aside0.mk (Kd.R_below (kR HO520) hb); have n3_ := Aside0.mk (Kd.V_below (by (with_reducible repeat (first | apply Kd.V_alloc | apply Kd.V_drewN | apply Kd.V_drew)); exact HL521_0.out) hb); have n4_ := Aside0.mk (Kd.R_below (kR HO525) hb); have n5_ := Aside0.mk (Kd.C_below (by repeat (first | (with_reducible exact HR516_0.out) | (with_reducible refine Kd.C_alloc ?_ _) | (with_reducible refine Kd.C_drewN ?_ _) | (with_reducible refine Kd.C_drew ?_) | exact HR516_0.out)) hb); have n6_ := Aside0.mk (Kd.C_below (by repeat (first | (with_reducible exact HR521_0.out) | (with_reducible refine Kd.C_alloc ?_ _) | (with_reducible refine Kd.C_drewN ?_ _) | (with_reducible refine Kd.C_drew ?_) | exact HR521_0.out)) hb); have n7_ := Aside0.mk (below_step (kZ HB) hb); clear HO_6; clear HL516_0; clear HO520; clear HL521_0; clear HO525; clear HR516_0; clear HR521_0; clear HB; have HO_6 := n0_; have HL516_0 := n1_; have HO520 := n2_; have HL521_0 := n3_; have HO525 := n4_; have HR516_0 := n5_; have HR521_0 := n6_; have HB := n7_; clear n0_ n1_ n2_ n3_ n4_ n5_ n6_ n7_; (try clear hb); (try clear hb2); (try clear hk); (try clear hi)))
               go_meet
               case rel => exact ⟨_, ((t527 != 1)), (by first | rfl | (simp; done) | (simp [*]; done)), H', ⟨by have := HJ3.out; have := HK2.out; first | omega | exact Nat.le_refl _⟩, ⟨by (with_reducible repeat (first | apply Kd.N_alloc | apply Kd.N_drewN | apply Kd.N_drew)); exact Kd.N_mono HO_6.out (fun _ hk => ⟨hk.1.2, hk.2⟩)⟩, ⟨by (with_reducible repeat (first | apply Kd.R_alloc | apply Kd.R_drewN | apply Kd.R_drew)); exact Kd.R_mono HO520.out (fun _ hk => hk.2)⟩, ⟨by (with_reducible repeat (first | apply Kd.R_alloc | apply Kd.R_drewN | apply Kd.R_drew)); exact Kd.R_mono HO525.out (fun _ hk => hk.2)⟩, ⟨by repeat (first | (with_reducible exact HR516_0.out) | (with_reducible refine Kd.C_alloc ?_ _) | (with_reducible refine Kd.C_drewN ?_ _) | (with_reducible refine Kd.C_drew ?_) | exact HR516_0.out)⟩, ⟨by repeat (first | (with_reducible exact HR521_0.out) | (with_reducible refine Kd.C_alloc ?_ _) | (with_reducible refine Kd.C_drewN ?_ _) | (with_reducible refine Kd.C_drew ?_) | exact HR521_0.out)⟩, ⟨kZ HB⟩⟩
              ·rw [if_neg c34] at H
               have c34b0 : (t526 == 2) = false := beq_eq_false_iff_ne.mpr c34
               have c34b1 : (t526 != 2) = true := bne_iff_ne.mpr c34
               (first | rw [c34b0] | (simp only [i64_w, i32_w]; rw [c34b0]) | skip)
               have H' := Aside0.mk H
               clear H
               obtain ⟨Ao40, co40, eo40⟩ := Kd.R_slice HO520.out
               subst eo40
               go_wp2_with (first | (go_at_call 21; (with_reducible refine (owned_State.calls k2 _ _ t517 a0 t526 _ ?side1 ?side2 A33.out).mono ?_); (case side1 => exact kC ((Kd.R_reads' HO520.out).2.2)); (case side2 => exact (Kd.R_reads' HO520.out).2.1); rintro e w41 ⟨rfl, hb⟩; have n0_ := Aside0.mk (Kd.N_below (by (with_reducible repeat (first | apply Kd.N_alloc | apply Kd.N_drewN | apply Kd.N_drew)); exact HO_6.out) hb); have n1_ := Aside0.mk (Kd.V_below (by (with_reducible repeat (first | apply Kd.V_alloc | apply Kd.V_drewN | apply Kd.V_drew)); exact HL516_0.out) hb); have n2_ := Aside0.mk (Kd.R_below (kR HO520) hb); have n3_ := Aside0.mk (Kd.V_below (by (with_reducible repeat (first | apply Kd.V_alloc | apply Kd.V_drewN | apply Kd.V_drew)); exact HL521_0.out) hb); have n4_ := Aside0.mk (Kd.R_below (kR HO525) hb); have n5_ := Aside0.mk (Kd.C_below (by repeat (first | (with_reducible exact HR516_0.out) | (with_reducible refine Kd.C_alloc ?_ _) | (with_reducible refine Kd.C_drewN ?_ _) | (with_reducible refine Kd.C_drew ?_) | exact HR516_0.out)) hb); have n6_ := Aside0.mk (Kd.C_below (by repeat (first | (with_reducible exact HR521_0.out) | (with_reducible refine Kd.C_alloc ?_ _) | (with_reducible refine Kd.C_drewN ?_ _) | (with_reducible refine Kd.C_drew ?_) | exact HR521_0.out)) hb); have n7_ := Aside0.mk (below_step (kZ HB) hb); clear HO_6; clear HL516_0; clear HO520; clear HL521_0; clear HO525; clear HR516_0; clear HR521_0; clear HB; have HO_6 := n0_; have HL516_0 := n1_; have HO520 := n2_; have HL521_0 := n3_; have HO525 := n4_; have HR516_0 := n5_; have HR521_0 := n6_; have HB := n7_; clear n0_ n1_ n2_ n3_ n4_ n5_ n6_ n7_; (try clear hb); (try clear hb2); (try clear hk); (try clear hi)))
               go_meet
               case rel => exact ⟨_, (true), (by first | rfl | (simp; done) | (simp [*]; done)), H', ⟨by have := HJ3.out; have := HK2.out; first | omega | exact Nat.le_refl _⟩, ⟨by (with_reducible repeat (first | apply Kd.N_alloc | apply Kd.N_drewN | apply Kd.N_drew)); exact Kd.N_mono HO_6.out (fun _ hk => ⟨hk.1.2, hk.2⟩)⟩, ⟨by (with_reducible repeat (first | apply Kd.R_alloc | apply Kd.R_drewN | apply Kd.R_drew)); exact Kd.R_mono HO520.out (fun _ hk => hk.2)⟩, ⟨by (with_reducible repeat (first | apply Kd.R_alloc | apply Kd.R_drewN | apply Kd.R_drew)); exact Kd.R_mono HO525.out (fun _ hk => hk.2)⟩, ⟨by repeat (first | (with_reducible exact HR516_0.out) | (with_reducible refine Kd.C_alloc ?_ _) | (with_reducible refine Kd.C_drewN ?_ _) | (with_reducible refine Kd.C_drew ?_) | exact HR516_0.out)⟩, ⟨by repeat (first | (with_reducible exact HR521_0.out) | (with_reducible refine Kd.C_alloc ?_ _) | (with_reducible refine Kd.C_drewN ?_ _) | (with_reducible refine Kd.C_drew ?_) | exact HR521_0.out)⟩, ⟨kZ HB⟩⟩
             ·replace c32 := Bool.eq_false_iff.mpr c32
              subst c32
              have H1 : (cantonlaw11_OwnedMoves.j2 k2 a0 a1 t499 x6_2 x7_2 x8_2 ji19 t517 t522 true) = some r := by rw [if_neg (show ¬ (false = true) by decide)] at H; exact H
              clear H
              have H := H1
              clear H1
              have H' := Aside0.mk H
              clear H
              go_wp2
              go_meet
              case rel => exact ⟨_, (true), (by first | rfl | (simp; done) | (simp [*]; done)), H', ⟨by have := HJ3.out; have := HK2.out; first | omega | exact Nat.le_refl _⟩, ⟨by (with_reducible repeat (first | apply Kd.N_alloc | apply Kd.N_drewN | apply Kd.N_drew)); exact Kd.N_mono HO_6.out (fun _ hk => ⟨hk.1.2, hk.2⟩)⟩, ⟨by (with_reducible repeat (first | apply Kd.R_alloc | apply Kd.R_drewN | apply Kd.R_drew)); exact Kd.R_mono HO520.out (fun _ hk => hk.2)⟩, ⟨by (with_reducible repeat (first | apply Kd.R_alloc | apply Kd.R_drewN | apply Kd.R_drew)); exact Kd.R_mono HO525.out (fun _ hk => hk.2)⟩, ⟨by repeat (first | (with_reducible exact HR516_0.out) | (with_reducible refine Kd.C_alloc ?_ _) | (with_reducible refine Kd.C_drewN ?_ _) | (with_reducible refine Kd.C_drew ?_) | exact HR516_0.out)⟩, ⟨by repeat (first | (with_reducible exact HR521_0.out) | (with_reducible refine Kd.C_alloc ?_ _) | (with_reducible refine Kd.C_drewN ?_ _) | (with_reducible refine Kd.C_drew ?_) | exact HR521_0.out)⟩, ⟨kZ HB⟩⟩
            ·replace c31 := Bool.eq_false_iff.mpr c31
             subst c31
             have H1 : (cantonlaw11_OwnedMoves.j2 k2 a0 a1 t499 x6_2 x7_2 x8_2 ji19 t517 t522 true) = some r := by rw [if_neg (show ¬ (false = true) by decide)] at H; exact H
             clear H
             have H := H1
             clear H1
             have H' := Aside0.mk H
             clear H
             go_wp2
             go_meet
             case rel => exact ⟨_, (true), (by first | rfl | (simp; done) | (simp [*]; done)), H', ⟨by have := HJ3.out; have := HK2.out; first | omega | exact Nat.le_refl _⟩, ⟨by (with_reducible repeat (first | apply Kd.N_alloc | apply Kd.N_drewN | apply Kd.N_drew)); exact Kd.N_mono HO_6.out (fun _ hk => ⟨hk.1.2, hk.2⟩)⟩, ⟨by (with_reducible repeat (first | apply Kd.R_alloc | apply Kd.R_drewN | apply Kd.R_drew)); exact Kd.R_mono HO520.out (fun _ hk => hk.2)⟩, ⟨by (with_reducible repeat (first | apply Kd.R_alloc | apply Kd.R_drewN | apply Kd.R_drew)); exact Kd.R_mono HO525.out (fun _ hk => hk.2)⟩, ⟨by repeat (first | (with_reducible exact HR516_0.out) | (with_reducible refine Kd.C_alloc ?_ _) | (with_reducible refine Kd.C_drewN ?_ _) | (with_reducible refine Kd.C_drew ?_) | exact HR516_0.out)⟩, ⟨by repeat (first | (with_reducible exact HR521_0.out) | (with_reducible refine Kd.C_alloc ?_ _) | (with_reducible refine Kd.C_drewN ?_ _) | (with_reducible refine Kd.C_drew ?_) | exact HR521_0.out)⟩, ⟨kZ HB⟩⟩
           case rest =>
            clear HC27
            try clear c1
            try clear c2
            try clear p2
            try clear c3
            try clear c5
            try clear p5
            try clear q5
            try clear hx5
            try clear c6
            try clear c6b0
            try clear c6b1
            try clear p6
            try clear c7
            try clear c9
            try clear c11
            try clear c13
            try clear c18
            try clear c18b0
            try clear c20
            try clear c20b0
            try clear c21
            try clear c21b0
            try clear c24
            try clear c24b0
            try clear c25
            try clear c25b0
            try clear c31
            try clear c32
            try clear c34
            try clear c34b0
            try clear c34b1
            try clear hx516_0
            try clear hx521_0
            try clear p2
            try clear p516
            try clear p521
            try clear q516
            try clear q521
            obtain ⟨kq, x78_26, rfl, HA, HJ26, HO_6, HO_10, HO_12, HR516_0, HR521_0, HB⟩ := hcut
            cases kq with
            | zero => exact absurd HA.out (by simp [cantonlaw11_OwnedMoves.j2])
            | succ kj26 =>
             have H := HA.out
             clear HA
             simp only [cantonlaw11_OwnedMoves.j2] at H
             by_cases c42 : x78_26 = true
             ·subst c42
              have H1 : (some false) = some r := by rw [if_pos rfl] at H; exact H
              clear H
              have H := H1
              clear H1
              obtain rfl := Option.some.inj H
              go_wp2
              go_ret
              exact ⟨by first | rfl | (simp [errW_none, errW_some] <;> rfl) | (simp only [← hji19, ← hji23]; first | rfl | (simp [errW_none, errW_some] <;> rfl)) | (simp [*, errW_none, errW_some] <;> rfl), kZ HB⟩
             ·replace c42 := Bool.eq_false_iff.mpr c42
              subst c42
              have H1 : ((owned_Drop.f kj26 t517 a0 x7_2).bind fun bt528 => (if bt528.2 = true then ((owned_State.f kj26 bt528.1 a0).bind fun t532 => (if t532 = 3 then (if 0 ≤ ji19 then (if ji19 < (x6_2.length : Int) then (if 0 ≤ (wrap64 (1 - ji19)) then (if (wrap64 (1 - ji19)) < (x6_2.length : Int) then (cantonlaw11_OwnedMoves.l0 kj26 a0 a1 t499 ((x6_2.set (ji19 : Int).toNat bt528.1).set ((wrap64 (1 - ji19)) : Int).toNat t522) (wrap64 (x7_2 + 1)) (wrap64 (x8_2 + 1))) else (none)) else (none)) else (none)) else (none)) else (some false))) else (some false))) = some r := by rw [if_neg (show ¬ (false = true) by decide)] at H; exact H
              clear H
              have H := H1
              clear H1
              replace H := Option.bind_eq_some_iff.mp H
              obtain ⟨⟨t528, t529⟩, A430, H⟩ := H
              replace H : (if t529 = true then ((owned_State.f kj26 t528 a0).bind fun t532 => (if t532 = 3 then (if 0 ≤ ji19 then (if ji19 < (x6_2.length : Int) then (if 0 ≤ (wrap64 (1 - ji19)) then (if (wrap64 (1 - ji19)) < (x6_2.length : Int) then (cantonlaw11_OwnedMoves.l0 kj26 a0 a1 t499 ((x6_2.set (ji19 : Int).toNat t528).set ((wrap64 (1 - ji19)) : Int).toNat t522) (wrap64 (x7_2 + 1)) (wrap64 (x8_2 + 1))) else (none)) else (none)) else (none)) else (none)) else (some false))) else (some false)) = some r := H
              have A43 := Aside0.mk A430
              clear A430
              by_cases c44 : t529 = true
              ·subst c44
               have H1 : ((owned_State.f kj26 t528 a0).bind fun t532 => (if t532 = 3 then (if 0 ≤ ji19 then (if ji19 < (x6_2.length : Int) then (if 0 ≤ (wrap64 (1 - ji19)) then (if (wrap64 (1 - ji19)) < (x6_2.length : Int) then (cantonlaw11_OwnedMoves.l0 kj26 a0 a1 t499 ((x6_2.set (ji19 : Int).toNat t528).set ((wrap64 (1 - ji19)) : Int).toNat t522) (wrap64 (x7_2 + 1)) (wrap64 (x8_2 + 1))) else (none)) else (none)) else (none)) else (none)) else (some false))) = some r := by rw [if_pos rfl] at H; exact H
               clear H
               have H := H1
               clear H1
               replace H := Option.bind_eq_some_iff.mp H
               obtain ⟨t532, A450, H⟩ := H
               replace H : (if t532 = 3 then (if 0 ≤ ji19 then (if ji19 < (x6_2.length : Int) then (if 0 ≤ (wrap64 (1 - ji19)) then (if (wrap64 (1 - ji19)) < (x6_2.length : Int) then (cantonlaw11_OwnedMoves.l0 kj26 a0 a1 t499 ((x6_2.set (ji19 : Int).toNat t528).set ((wrap64 (1 - ji19)) : Int).toNat t522) (wrap64 (x7_2 + 1)) (wrap64 (x8_2 + 1))) else (none)) else (none)) else (none)) else (none)) else (some false)) = some r := H
               have A45 := Aside0.mk A450
               clear A450
               by_cases c46 : t532 = 3
               ·rw [if_pos c46] at H
                have c46b0 : (t532 == 3) = true := beq_iff_eq.mpr c46
                have c46b1 : (t532 != 3) = false := bne_eq_false_iff_eq.mpr c46
                clear c46
                by_cases c47 : 0 ≤ ji19
                ·rw [if_pos c47] at H
                 have c47b0 : decide (0 ≤ ji19) = true := decide_eq_true c47
                 clear c47
                 by_cases c48 : ji19 < (x6_2.length : Int)
                 ·rw [if_pos c48] at H
                  have c48b0 : decide (ji19 < (x6_2.length : Int)) = true := decide_eq_true c48
                  clear c48
                  obtain ⟨y533, hy533⟩ : ∃ y_ : List (List (S45)), y_ = (x6_2.set (ji19 : Int).toNat t528) := ⟨_, rfl⟩
                  replace H : (if 0 ≤ (wrap64 (1 - ji19)) then (if (wrap64 (1 - ji19)) < (x6_2.length : Int) then (cantonlaw11_OwnedMoves.l0 kj26 a0 a1 t499 (y533.set ((wrap64 (1 - ji19)) : Int).toNat t522) (wrap64 (x7_2 + 1)) (wrap64 (x8_2 + 1))) else (none)) else (none)) = some r := by first | (rw [hy533]; with_reducible exact H) | (have H2_ := (Option.bind_some _ _).symm.trans H; rw [hy533]; with_reducible exact H2_) | (have H2_ := (Option.bind_some _ _).symm.trans H; with_reducible exact H2_) | with_reducible exact H | (rw [hy533]; exact H) | exact H
                  have Ny533 := Aside0.mk hy533
                  clear hy533
                  obtain ⟨ji50, hji50⟩ : ∃ j_ : Int, (wrap64 (1 - ji19)) = j_ := ⟨_, rfl⟩
                  replace H : (if 0 ≤ (ji50) then (if (ji50) < (x6_2.length : Int) then (cantonlaw11_OwnedMoves.l0 kj26 a0 a1 t499 (y533.set ((ji50) : Int).toNat t522) (wrap64 (x7_2 + 1)) (wrap64 (x8_2 + 1))) else (none)) else (none)) = some r := by first | (rw [hji50] at H; exact H) | (simp only [hji50] at H ⊢; exact H)
                  (try rw [hji50] at A43)
                  (try rw [hji50] at A45)
                  have hji50w : (IntKind.i64.wrap (1 - ji19)) = ji50 := (i64_w _).trans hji50
                  have ejj_ : ji50 = ji23 := hji50.symm.trans hji23
                  subst ejj_
                  by_cases c51 : 0 ≤ (ji50)
                  ·rw [if_pos c51] at H
                   have c51b0 : decide (0 ≤ (ji50)) = true := decide_eq_true c51
                   clear c51
                   by_cases c52 : (ji50) < (x6_2.length : Int)
                   ·rw [if_pos c52] at H
                    have c52b0 : decide ((ji50) < (x6_2.length : Int)) = true := decide_eq_true c52
                    clear c52
                    obtain ⟨y534, hy534⟩ : ∃ y_ : List (List (S45)), y_ = (y533.set ((ji50) : Int).toNat t522) := ⟨_, rfl⟩
                    replace H : (cantonlaw11_OwnedMoves.l0 kj26 a0 a1 t499 y534 (wrap64 (x7_2 + 1)) (wrap64 (x8_2 + 1))) = some r := by first | (rw [hy534]; with_reducible exact H) | (have H2_ := (Option.bind_some _ _).symm.trans H; rw [hy534]; with_reducible exact H2_) | (have H2_ := (Option.bind_some _ _).symm.trans H; with_reducible exact H2_) | with_reducible exact H | (rw [hy534]; exact H) | exact H
                    have Ny534 := Aside0.mk hy534
                    clear hy534
                    have H' := Aside0.mk H
                    clear H
                    obtain ⟨Ao54, co54, eo54⟩ := Kd.R_slice HO_10.out
                    subst eo54
                    obtain ⟨Aq54, cq54, eq54⟩ := Kd.R_slice HO_12.out
                    subst eq54
                    go_wp2_with (first | ((with_reducible refine gate_callee (f := 15) rfl ?_); refine gL (some 83) Try.func15 #[.slice Ao54 t517.length co54, .string a0, .int .i64 x7_2] rfl rfl ?_; (with_reducible refine (owned_Drop.calls kj26 _ _ t517 a0 x7_2 t528 true _ ?side1 ?side2 A43.out).mono ?_); (case side1 => exact kC ((Kd.R_reads' HO_10.out).2.2)); (case side2 => exact (Kd.R_reads' HO_10.out).2.1); rintro e w55 ⟨v530, rfl, ho0, hb⟩; refine ⟨_, rfl, ?_⟩; have n0_ := Aside0.mk (Kd.N_elder' (by (with_reducible repeat (first | apply Kd.N_alloc | apply Kd.N_drewN | apply Kd.N_drew)); exact HO_6.out) (Kd.R_base ho0) hb); have n1_ := Aside0.mk (Kd.R_elder' (kR HO_10) (Kd.R_base ho0) hb); have n2_ := Aside0.mk (Kd.R_elder' (kR HO_12) (Kd.R_base ho0) hb); have n3_ := Aside0.mk (Kd.R_lower (Kd.R_new' (Kd.R_new' ho0 (Kd.R_lt (kR HO_10))) (Kd.R_lt (kR HO_12))) (below_size (kZ HB))); have n4_ := Aside0.mk (Kd.C_below (by repeat (first | (with_reducible exact HR516_0.out) | (with_reducible refine Kd.C_alloc ?_ _) | (with_reducible refine Kd.C_drewN ?_ _) | (with_reducible refine Kd.C_drew ?_) | exact HR516_0.out)) hb); have n5_ := Aside0.mk (Kd.C_below (by repeat (first | (with_reducible exact HR521_0.out) | (with_reducible refine Kd.C_alloc ?_ _) | (with_reducible refine Kd.C_drewN ?_ _) | (with_reducible refine Kd.C_drew ?_) | exact HR521_0.out)) hb); have n6_ := Aside0.mk (below_step (kZ HB) hb); clear HO_6; clear HO_10; clear HO_12; clear HR516_0; clear HR521_0; clear HB; have HO_6 := n0_; have HO_10 := n1_; have HO_12 := n2_; have HO531 := n3_; have HR516_0 := n4_; have HR521_0 := n5_; have HB := n6_; clear n0_ n1_ n2_ n3_ n4_ n5_ n6_; (try clear hb); (try clear hb2); (try clear hk); (try clear hi); (try clear ho0); obtain ⟨Ao56, co56, eo56⟩ := Kd.R_slice HO531.out; subst eo56) | (go_at_call 21; (with_reducible refine (owned_State.calls kj26 _ _ t528 a0 t532 _ ?side1 ?side2 A45.out).mono ?_); (case side1 => exact kC ((Kd.R_reads' HO531.out).2.2)); (case side2 => exact (Kd.R_reads' HO531.out).2.1); rintro e w57 ⟨rfl, hb⟩; have n0_ := Aside0.mk (Kd.N_below (by (with_reducible repeat (first | apply Kd.N_alloc | apply Kd.N_drewN | apply Kd.N_drew)); exact HO_6.out) hb); have n1_ := Aside0.mk (Kd.R_below (kR HO_10) hb); have n2_ := Aside0.mk (Kd.R_below (kR HO_12) hb); have n3_ := Aside0.mk (Kd.R_below (kR HO531) hb); have n4_ := Aside0.mk (Kd.C_below (by repeat (first | (with_reducible exact HR516_0.out) | (with_reducible refine Kd.C_alloc ?_ _) | (with_reducible refine Kd.C_drewN ?_ _) | (with_reducible refine Kd.C_drew ?_) | exact HR516_0.out)) hb); have n5_ := Aside0.mk (Kd.C_below (by repeat (first | (with_reducible exact HR521_0.out) | (with_reducible refine Kd.C_alloc ?_ _) | (with_reducible refine Kd.C_drewN ?_ _) | (with_reducible refine Kd.C_drew ?_) | exact HR521_0.out)) hb); have n6_ := Aside0.mk (below_step (kZ HB) hb); clear HO_6; clear HO_10; clear HO_12; clear HO531; clear HR516_0; clear HR521_0; clear HB; have HO_6 := n0_; have HO_10 := n1_; have HO_12 := n2_; have HO531 := n3_; have HR516_0 := n4_; have HR521_0 := n5_; have HB := n6_; clear n0_ n1_ n2_ n3_ n4_ n5_ n6_; (try clear hb); (try clear hb2); (try clear hk); (try clear hi); have p49 : 0 ≤ (ji19 : Int) := of_decide_eq_true (by first | (with_reducible assumption) | assumption); have q49 : (ji19 : Int) < ((x6_2.length : Int) : Int) := of_decide_eq_true (by first | (with_reducible assumption) | assumption); obtain ⟨go49, co49, eo49, gb49, gl49, cl49, HG49⟩ := Kd.N_form HO_6.out (by omega); (first | cases eo49 | (injection eo49 with ea_ en_ ec_; (first | subst ea_ | (injection ea_ with ea_; subst ea_)); subst ec_; clear en_)); have GB49 := Aside0.mk gb49; have GG49 := Aside0.mk HG49; clear gb49 gl49 HG49; (first | simp only [add_plain] at hx516_0 | skip); (first | simp only [add_plain] at hx521_0 | skip); obtain ⟨ce49, hcl49, hM49, hcc49, hfr49⟩ := Kd.N_elem HO_6.out [] (ji19 : Int) p49 q49; obtain ⟨ua49_0, uc49_0, rfl, ul49_0, ge49_0⟩ := Kd.FK_slice_open hM49; have hx49_0 := hcc49 0 _ rfl; have hf49_0 := hfr49 0; (try simp only [show ((Kd.slice 45 k45)).sz = 1 from rfl, Nat.mul_one, Nat.add_zero] at hx49_0); (try simp only [show ((Kd.slice 45 k45)).sz = 1 from rfl, Nat.mul_one, Nat.add_zero] at hf49_0); clear hcl49 hcc49 hfr49 hM49; replace p49 := eq_true p49; replace q49 := eq_true q49; have n_ := Aside0.mk (Kd.N_mono (ok' := (fun k_ => some k_ ≠ (.slice Ao54 t517.length co54 : Value).ownBlock ∧ some k_ ≠ ((.slice Aq54 t522.length cq54) : Value).ownBlock ∧ some k_ ≠ (.slice Ao56 t528.length co56 : Value).ownBlock)) HO_6.out (fun k_ hk => ⟨hk.1.1, ⟨hk.1.2, hk.2⟩⟩)); clear HO_6; have HO_6 := n_; clear n_; have HX58 := Aside0.mk (show Kd.N (Kd.slice 45 k45) 22 w57 w.heap.size (fun k_ => some k_ ≠ (.slice Ao54 t517.length co54 : Value).ownBlock ∧ some k_ ≠ ((.slice Aq54 t522.length cq54) : Value).ownBlock) (.slice (some ⟨go49, 0, none⟩) x6_2.length co28) x6_2 from (by (with_reducible repeat (first | apply Kd.N_alloc | apply Kd.N_drewN | apply Kd.N_drew)); exact Kd.N_mono HO_6.out (fun _ hk => ⟨hk.1, hk.2.1⟩))); obtain ⟨ce58, hcl58, hM58, hcc58, hfr58⟩ := Kd.N_elem HX58.out [] (ji19 : Int) (of_decide_eq_true (by first | (with_reducible assumption) | assumption)) (by have h_ : (ji19 : Int) < ((x6_2.length : Int) : Int) := of_decide_eq_true (by first | (with_reducible assumption) | assumption); first | exact h_ | (have e_ := (Kd.N_reads' HO_6.out).1; omega) | simpa using h_); obtain ⟨ua58_0, uc58_0, rfl, ul58_0, ge58_0⟩ := Kd.FK_slice_open hM58; have HP58 := Kd.N_seg HX58.out (ji19 : Int) (of_decide_eq_true (by first | (with_reducible assumption) | assumption)) (by have h_ : (ji19 : Int) < ((x6_2.length : Int) : Int) := of_decide_eq_true (by first | (with_reducible assumption) | assumption); first | exact h_ | (have e_ := (Kd.N_reads' HO_6.out).1; omega) | simpa using h_) (seg := [.slice Ao56 t528.length co56]) (j := 0) hcl58 hcc58 (show 1 ≤ 1 from by decide) (x' := t528) (Kd.FK_slice_mk (Kd.R_reads' (Kd.R_mono (ok' := (fun k_ => ((fun k_ => some k_ ≠ (.slice Ao54 t517.length co54 : Value).ownBlock ∧ some k_ ≠ ((.slice Aq54 t522.length cq54) : Value).ownBlock)) k_ ∧ k_ ≠ go49)) (Kd.R_apart' (HO531.out) (Kd.N_typed HO_6.out) (by decide)) (fun k_ hk => ⟨⟨hk.1.1.2, hk.1.2⟩, fun e_ => (hk.2) (by rw [e_]; rfl)⟩))).2.1 (Kd.R_F (Kd.R_mono (ok' := (fun k_ => ((fun k_ => some k_ ≠ (.slice Ao54 t517.length co54 : Value).ownBlock ∧ some k_ ≠ ((.slice Aq54 t522.length cq54) : Value).ownBlock)) k_ ∧ k_ ≠ go49)) (Kd.R_apart' (HO531.out) (Kd.N_typed HO_6.out) (by decide)) (fun k_ hk => ⟨⟨hk.1.1.2, hk.1.2⟩, fun e_ => (hk.2) (by rw [e_]; rfl)⟩)))) (fun _ hk => hk); have hx58_0 := hcc58 0 _ rfl; (try simp only [show ((Kd.slice 45 k45)).sz = 1 from rfl, Nat.mul_one, Nat.add_zero] at hx58_0); have hf58_0 := hfr58 0; (try simp only [show ((Kd.slice 45 k45)).sz = 1 from rfl, Nat.mul_one, Nat.add_zero] at hf58_0); clear hcl58 hcc58 hfr58 hM58; (try simp only [show ((Kd.slice 45 k45)).sz = 1 from rfl, Nat.mul_one, Nat.add_zero] at HP58); (try simp only [show ((Kd.slice 45 k45)).sz = 1 from rfl, Nat.mul_one, Nat.add_zero] at HP58)) | ((with_reducible refine gate_store (t := 22) (p := 97) rfl ?_); refine store_event (t := 22) (p := 97) (v := ?vo_w59) (w1 := (w57.setCell ⟨go49, (ji19 : Int).toNat, none⟩ (.slice Ao56 t528.length co56))) ?hg ?ho ?hn ?hr ?_; (case ho => rfl); (case hg => rfl); (case hn => rfl); (case hr => first | (go_simp; done) | (go_simp; rfl)); intro w59 hw; have hg : w57.grownBy w59 (some go49) := (by rw [hw]; exact HP58.2); have hp_ : Kd.N (Kd.slice 45 k45) 22 w59 w.heap.size (fun k_ => some k_ ≠ (.slice Ao54 t517.length co54 : Value).ownBlock ∧ some k_ ≠ ((.slice Aq54 t522.length cq54) : Value).ownBlock) (.slice (some ⟨go49, 0, none⟩) x6_2.length co28) y533 := (by rw [hw, Ny533.out]; exact HP58.1); clear HP58; have n0_ := Aside0.mk (hp_); have n1_ := Aside0.mk (Kd.R_over' (v := (.slice (some ⟨go49, 0, none⟩) x6_2.length co28)) (kR HO_10) (Kd.N_typed HO_6.out) (by decide) hg); have n2_ := Aside0.mk (Kd.R_over' (v := (.slice (some ⟨go49, 0, none⟩) x6_2.length co28)) (kR HO_12) (Kd.N_typed HO_6.out) (by decide) hg); have n3_ := Aside0.mk ((by rw [hw]; exact below_set (HB.out) GB49.out : Below w.heap.size w w59)); clear HO_6; clear HO_10; clear HO_12; clear HB; clear HO531; have HO_6 := n0_; have HO_10 := n1_; have HO_12 := n2_; have HB := n3_; clear n0_ n1_ n2_ n3_; clear hg hw hp_; have p53 : 0 ≤ ((ji50) : Int) := of_decide_eq_true (by first | (with_reducible assumption) | assumption); have q53 : ((ji50) : Int) < ((x6_2.length : Int) : Int) := of_decide_eq_true (by first | (with_reducible assumption) | assumption); obtain ⟨ce53, hcl53, hM53, hcc53, hfr53⟩ := Kd.N_elem HO_6.out [] ((ji50) : Int) p53 q53; obtain ⟨ua53_0, uc53_0, rfl, ul53_0, ge53_0⟩ := Kd.FK_slice_open hM53; have hx53_0 := hcc53 0 _ rfl; have hf53_0 := hfr53 0; (try simp only [show ((Kd.slice 45 k45)).sz = 1 from rfl, Nat.mul_one, Nat.add_zero] at hx53_0); (try simp only [show ((Kd.slice 45 k45)).sz = 1 from rfl, Nat.mul_one, Nat.add_zero] at hf53_0); clear hcl53 hcc53 hfr53 hM53; replace p53 := eq_true p53; replace q53 := eq_true q53; have HX60 := Aside0.mk (show Kd.N (Kd.slice 45 k45) 22 w59 w.heap.size (fun k_ => some k_ ≠ (.slice Ao54 t517.length co54 : Value).ownBlock) (.slice (some ⟨go49, 0, none⟩) x6_2.length co28) y533 from (by (with_reducible repeat (first | apply Kd.N_alloc | apply Kd.N_drewN | apply Kd.N_drew)); exact Kd.N_mono HO_6.out (fun _ hk => hk.1))); obtain ⟨ce60, hcl60, hM60, hcc60, hfr60⟩ := Kd.N_elem HX60.out [] ((ji50) : Int) (of_decide_eq_true (by first | (with_reducible assumption) | assumption)) (by have h_ : ((ji50) : Int) < ((x6_2.length : Int) : Int) := of_decide_eq_true (by first | (with_reducible assumption) | assumption); first | exact h_ | (have e_ := (Kd.N_reads' HO_6.out).1; omega) | simpa using h_); obtain ⟨ua60_0, uc60_0, rfl, ul60_0, ge60_0⟩ := Kd.FK_slice_open hM60; have HP60 := Kd.N_seg HX60.out ((ji50) : Int) (of_decide_eq_true (by first | (with_reducible assumption) | assumption)) (by have h_ : ((ji50) : Int) < ((x6_2.length : Int) : Int) := of_decide_eq_true (by first | (with_reducible assumption) | assumption); first | exact h_ | (have e_ := (Kd.N_reads' HO_6.out).1; omega) | simpa using h_) (seg := [(.slice Aq54 t522.length cq54)]) (j := 0) hcl60 hcc60 (show 1 ≤ 1 from by decide) (x' := t522) (Kd.FK_slice_mk (Kd.R_reads' (Kd.R_mono (ok' := (fun k_ => ((fun k_ => some k_ ≠ (.slice Ao54 t517.length co54 : Value).ownBlock)) k_ ∧ k_ ≠ go49)) (Kd.R_apart' (HO_12.out) (Kd.N_typed HO_6.out) (by decide)) (fun k_ hk => ⟨hk.1.1, fun e_ => (hk.2) (by rw [e_]; rfl)⟩))).2.1 (Kd.R_F (Kd.R_mono (ok' := (fun k_ => ((fun k_ => some k_ ≠ (.slice Ao54 t517.length co54 : Value).ownBlock)) k_ ∧ k_ ≠ go49)) (Kd.R_apart' (HO_12.out) (Kd.N_typed HO_6.out) (by decide)) (fun k_ hk => ⟨hk.1.1, fun e_ => (hk.2) (by rw [e_]; rfl)⟩)))) (fun _ hk => hk); have hx60_0 := hcc60 0 _ rfl; (try simp only [show ((Kd.slice 45 k45)).sz = 1 from rfl, Nat.mul_one, Nat.add_zero] at hx60_0); have hf60_0 := hfr60 0; (try simp only [show ((Kd.slice 45 k45)).sz = 1 from rfl, Nat.mul_one, Nat.add_zero] at hf60_0); clear hcl60 hcc60 hfr60 hM60; (try simp only [show ((Kd.slice 45 k45)).sz = 1 from rfl, Nat.mul_one, Nat.add_zero] at HP60); (try simp only [show ((Kd.slice 45 k45)).sz = 1 from rfl, Nat.mul_one, Nat.add_zero] at HP60)) | ((with_reducible refine gate_store (t := 22) (p := 102) rfl ?_); refine store_event (t := 22) (p := 102) (v := ?vo_w61) (w1 := (w59.setCell ⟨go49, ((ji50) : Int).toNat, none⟩ ((.slice Aq54 t522.length cq54)))) ?hg ?ho ?hn ?hr ?_; (case ho => rfl); (case hg => rfl); (case hn => rfl); (case hr => first | (go_simp; done) | (go_simp; rfl)); intro w61 hw; have hg : w59.grownBy w61 (some go49) := (by rw [hw]; exact HP60.2); have hp_ : Kd.N (Kd.slice 45 k45) 22 w61 w.heap.size (fun k_ => some k_ ≠ (.slice Ao54 t517.length co54 : Value).ownBlock) (.slice (some ⟨go49, 0, none⟩) x6_2.length co28) y534 := (by rw [hw, Ny534.out]; exact HP60.1); clear HP60; have n0_ := Aside0.mk (hp_); have n1_ := Aside0.mk (Kd.R_over' (v := (.slice (some ⟨go49, 0, none⟩) x6_2.length co28)) (kR HO_10) (Kd.N_typed HO_6.out) (by decide) hg); have n2_ := Aside0.mk ((by rw [hw]; exact below_set (HB.out) GB49.out : Below w.heap.size w w61)); clear HO_6; clear HO_10; clear HB; clear HO_12; have HO_6 := n0_; have HO_10 := n1_; have HB := n2_; clear n0_ n1_ n2_; clear hg hw hp_))
                    go_roundg kj26
                    case measure => have := HJ3.out; have := HK2.out; have := HJ26.out; omega
                    case rel => exact ⟨(y534), (wrap64 (x7_2 + 1)), (wrap64 (x8_2 + 1)), (by first | rfl | (simp; done) | (simp [*]; done)), (by first | rfl | (simp; done) | (simp [*]; done)), H', ⟨by have := HJ3.out; have := HK2.out; have := HJ26.out; omega⟩, ⟨by (with_reducible repeat (first | apply Kd.N_alloc | apply Kd.N_drewN | apply Kd.N_drew)); exact Kd.N_mono HO_6.out (fun _ hk => trivial)⟩, ⟨kZ HB⟩⟩
                   ·rw [if_neg c52] at H
                    exact absurd H (by simp)
                  ·rw [if_neg c51] at H
                   exact absurd H (by simp)
                 ·rw [if_neg c48] at H
                  exact absurd H (by simp)
                ·rw [if_neg c47] at H
                 exact absurd H (by simp)
               ·rw [if_neg c46] at H
                have c46b0 : (t532 == 3) = false := beq_eq_false_iff_ne.mpr c46
                have c46b1 : (t532 != 3) = true := bne_iff_ne.mpr c46
                obtain rfl := Option.some.inj H
                obtain ⟨Ao62, co62, eo62⟩ := Kd.R_slice HO_10.out
                subst eo62
                go_wp2_with (first | ((with_reducible refine gate_callee (f := 15) rfl ?_); refine gL (some 83) Try.func15 #[.slice Ao62 t517.length co62, .string a0, .int .i64 x7_2] rfl rfl ?_; (with_reducible refine (owned_Drop.calls kj26 _ _ t517 a0 x7_2 t528 true _ ?side1 ?side2 A43.out).mono ?_); (case side1 => exact kC ((Kd.R_reads' HO_10.out).2.2)); (case side2 => exact (Kd.R_reads' HO_10.out).2.1); rintro e w63 ⟨v530, rfl, ho0, hb⟩; refine ⟨_, rfl, ?_⟩; have n0_ := Aside0.mk (Kd.N_elder' (by (with_reducible repeat (first | apply Kd.N_alloc | apply Kd.N_drewN | apply Kd.N_drew)); exact HO_6.out) (Kd.R_base ho0) hb); have n1_ := Aside0.mk (Kd.R_elder' (kR HO_10) (Kd.R_base ho0) hb); have n2_ := Aside0.mk (Kd.R_elder' (kR HO_12) (Kd.R_base ho0) hb); have n3_ := Aside0.mk (Kd.R_lower (Kd.R_new' (Kd.R_new' ho0 (Kd.R_lt (kR HO_10))) (Kd.R_lt (kR HO_12))) (below_size (kZ HB))); have n4_ := Aside0.mk (Kd.C_below (by repeat (first | (with_reducible exact HR516_0.out) | (with_reducible refine Kd.C_alloc ?_ _) | (with_reducible refine Kd.C_drewN ?_ _) | (with_reducible refine Kd.C_drew ?_) | exact HR516_0.out)) hb); have n5_ := Aside0.mk (Kd.C_below (by repeat (first | (with_reducible exact HR521_0.out) | (with_reducible refine Kd.C_alloc ?_ _) | (with_reducible refine Kd.C_drewN ?_ _) | (with_reducible refine Kd.C_drew ?_) | exact HR521_0.out)) hb); have n6_ := Aside0.mk (below_step (kZ HB) hb); clear HO_6; clear HO_10; clear HO_12; clear HR516_0; clear HR521_0; clear HB; have HO_6 := n0_; have HO_10 := n1_; have HO_12 := n2_; have HO531 := n3_; have HR516_0 := n4_; have HR521_0 := n5_; have HB := n6_; clear n0_ n1_ n2_ n3_ n4_ n5_ n6_; (try clear hb); (try clear hb2); (try clear hk); (try clear hi); (try clear ho0); obtain ⟨Ao64, co64, eo64⟩ := Kd.R_slice HO531.out; subst eo64) | (go_at_call 21; (with_reducible refine (owned_State.calls kj26 _ _ t528 a0 t532 _ ?side1 ?side2 A45.out).mono ?_); (case side1 => exact kC ((Kd.R_reads' HO531.out).2.2)); (case side2 => exact (Kd.R_reads' HO531.out).2.1); rintro e w65 ⟨rfl, hb⟩; have n0_ := Aside0.mk (Kd.N_below (by (with_reducible repeat (first | apply Kd.N_alloc | apply Kd.N_drewN | apply Kd.N_drew)); exact HO_6.out) hb); have n1_ := Aside0.mk (Kd.R_below (kR HO_10) hb); have n2_ := Aside0.mk (Kd.R_below (kR HO_12) hb); have n3_ := Aside0.mk (Kd.R_below (kR HO531) hb); have n4_ := Aside0.mk (Kd.C_below (by repeat (first | (with_reducible exact HR516_0.out) | (with_reducible refine Kd.C_alloc ?_ _) | (with_reducible refine Kd.C_drewN ?_ _) | (with_reducible refine Kd.C_drew ?_) | exact HR516_0.out)) hb); have n5_ := Aside0.mk (Kd.C_below (by repeat (first | (with_reducible exact HR521_0.out) | (with_reducible refine Kd.C_alloc ?_ _) | (with_reducible refine Kd.C_drewN ?_ _) | (with_reducible refine Kd.C_drew ?_) | exact HR521_0.out)) hb); have n6_ := Aside0.mk (below_step (kZ HB) hb); clear HO_6; clear HO_10; clear HO_12; clear HO531; clear HR516_0; clear HR521_0; clear HB; have HO_6 := n0_; have HO_10 := n1_; have HO_12 := n2_; have HO531 := n3_; have HR516_0 := n4_; have HR521_0 := n5_; have HB := n6_; clear n0_ n1_ n2_ n3_ n4_ n5_ n6_; (try clear hb); (try clear hb2); (try clear hk); (try clear hi)))
                go_ret
                exact ⟨by first | rfl | (simp [errW_none, errW_some] <;> rfl) | (simp only [← hji19, ← hji23]; first | rfl | (simp [errW_none, errW_some] <;> rfl)) | (simp [*, errW_none, errW_some] <;> rfl), kZ HB⟩
              ·replace c44 := Bool.eq_false_iff.mpr c44
               subst c44
               have H1 : (some false) = some r := by rw [if_neg (show ¬ (false = true) by decide)] at H; exact H
               clear H
               have H := H1
               clear H1
               obtain rfl := Option.some.inj H
               obtain ⟨Ao66, co66, eo66⟩ := Kd.R_slice HO_10.out
               subst eo66
               go_wp2_with (first | ((with_reducible refine gate_callee (f := 15) rfl ?_); refine gL (some 83) Try.func15 #[.slice Ao66 t517.length co66, .string a0, .int .i64 x7_2] rfl rfl ?_; (with_reducible refine (owned_Drop.calls kj26 _ _ t517 a0 x7_2 t528 false _ ?side1 ?side2 A43.out).mono ?_); (case side1 => exact kC ((Kd.R_reads' HO_10.out).2.2)); (case side2 => exact (Kd.R_reads' HO_10.out).2.1); rintro e w67 ⟨v530, rfl, ho0, hb⟩; refine ⟨_, rfl, ?_⟩; have n0_ := Aside0.mk (Kd.N_elder' (by (with_reducible repeat (first | apply Kd.N_alloc | apply Kd.N_drewN | apply Kd.N_drew)); exact HO_6.out) (Kd.R_base ho0) hb); have n1_ := Aside0.mk (Kd.R_elder' (kR HO_10) (Kd.R_base ho0) hb); have n2_ := Aside0.mk (Kd.R_elder' (kR HO_12) (Kd.R_base ho0) hb); have n3_ := Aside0.mk (Kd.R_lower (Kd.R_new' (Kd.R_new' ho0 (Kd.R_lt (kR HO_10))) (Kd.R_lt (kR HO_12))) (below_size (kZ HB))); have n4_ := Aside0.mk (Kd.C_below (by repeat (first | (with_reducible exact HR516_0.out) | (with_reducible refine Kd.C_alloc ?_ _) | (with_reducible refine Kd.C_drewN ?_ _) | (with_reducible refine Kd.C_drew ?_) | exact HR516_0.out)) hb); have n5_ := Aside0.mk (Kd.C_below (by repeat (first | (with_reducible exact HR521_0.out) | (with_reducible refine Kd.C_alloc ?_ _) | (with_reducible refine Kd.C_drewN ?_ _) | (with_reducible refine Kd.C_drew ?_) | exact HR521_0.out)) hb); have n6_ := Aside0.mk (below_step (kZ HB) hb); clear HO_6; clear HO_10; clear HO_12; clear HR516_0; clear HR521_0; clear HB; have HO_6 := n0_; have HO_10 := n1_; have HO_12 := n2_; have HO531 := n3_; have HR516_0 := n4_; have HR521_0 := n5_; have HB := n6_; clear n0_ n1_ n2_ n3_ n4_ n5_ n6_; (try clear hb); (try clear hb2); (try clear hk); (try clear hi); (try clear ho0)))
               go_ret
               exact ⟨by first | rfl | (simp [errW_none, errW_some] <;> rfl) | (simp only [← hji19, ← hji23]; first | rfl | (simp [errW_none, errW_some] <;> rfl)) | (simp [*, errW_none, errW_some] <;> rfl), kZ HB⟩
          ·rw [if_neg c25] at H
           exact absurd H (by simp)
         ·rw [if_neg c24] at H
          exact absurd H (by simp)
        ·rw [if_neg c21] at H
         exact absurd H (by simp)
       ·rw [if_neg c20] at H
        exact absurd H (by simp)
      ·rw [if_neg c18] at H
       have c18b0 : decide (x8_2 < (wrap64 (Int.tmod a1 20))) = false := decide_eq_false c18
       clear c18
       by_cases c68 : t499 = true
       ·subst c68
        have H1 : (if 0 < (x6_2.length : Int) then ((owned_State.f k2 (rd_L5 x6_2 0) a0).bind fun t511 => ((some (([1, 3] : List Int) : List Int)).bind fun y512 => (if 0 ≤ (Int.tmod (wrap64 (Int.tmod a1 20)) 2) then (if (Int.tmod (wrap64 (Int.tmod a1 20)) 2) < (y512.length : Int) then (some (t511 == (rd y512 (Int.tmod (wrap64 (Int.tmod a1 20)) 2)))) else (none)) else (none)))) else (none)) = some r := by rw [if_pos rfl] at H; exact H
        clear H
        have H := H1
        clear H1
        by_cases c69 : 0 < (x6_2.length : Int)
        ·rw [if_pos c69] at H
         have c69b0 : decide (0 < (x6_2.length : Int)) = true := decide_eq_true c69
         have c69b1 : decide (0 < x6_2.length) = true := decide_eq_true (by omega)
         clear c69
         replace H := Option.bind_eq_some_iff.mp H
         obtain ⟨t511, A700, H⟩ := H
         replace H : ((some (([1, 3] : List Int) : List Int)).bind fun y512 => (if 0 ≤ (Int.tmod (wrap64 (Int.tmod a1 20)) 2) then (if (Int.tmod (wrap64 (Int.tmod a1 20)) 2) < (y512.length : Int) then (some (t511 == (rd y512 (Int.tmod (wrap64 (Int.tmod a1 20)) 2)))) else (none)) else (none))) = some r := H
         have A70 := Aside0.mk A700
         clear A700
         obtain ⟨y512, hy512⟩ : ∃ y_ : List Int, y_ = (([1, 3] : List Int)) := ⟨_, rfl⟩
         replace H : (if 0 ≤ (Int.tmod (wrap64 (Int.tmod a1 20)) 2) then (if (Int.tmod (wrap64 (Int.tmod a1 20)) 2) < (y512.length : Int) then (some (t511 == (rd y512 (Int.tmod (wrap64 (Int.tmod a1 20)) 2)))) else (none)) else (none)) = some r := by first | (rw [hy512]; with_reducible exact H) | (have H2_ := (Option.bind_some _ _).symm.trans H; rw [hy512]; with_reducible exact H2_) | (have H2_ := (Option.bind_some _ _).symm.trans H; with_reducible exact H2_) | with_reducible exact H | (rw [hy512]; exact H) | exact H
         have Ny512 := Aside0.mk hy512
         clear hy512
         obtain ⟨ji71, hji71⟩ : ∃ j_ : Int, (Int.tmod (wrap64 (Int.tmod a1 20)) 2) = j_ := ⟨_, rfl⟩
         replace H : (if 0 ≤ (ji71) then (if (ji71) < (y512.length : Int) then (some (t511 == (rd y512 (ji71)))) else (none)) else (none)) = some r := by first | (rw [hji71] at H; exact H) | (simp only [hji71] at H ⊢; exact H)
         (try rw [hji71] at A70)
         by_cases c72 : 0 ≤ (ji71)
         ·rw [if_pos c72] at H
          have c72b0 : decide (0 ≤ (ji71)) = true := decide_eq_true c72
          clear c72
          by_cases c73 : (ji71) < (y512.length : Int)
          ·rw [if_pos c73] at H
           have c73b0 : decide ((ji71) < (y512.length : Int)) = true := decide_eq_true c73
           clear c73
           obtain rfl := Option.some.inj H
           try go_wp2
           have pi515 : (0 ≤ ((ji71) : Int)) = True := eq_true (of_decide_eq_true (by first | (with_reducible assumption) | assumption))
           have qi515 : ((ji71) < (y512.length : Int)) = True := eq_true (of_decide_eq_true (by first | (with_reducible assumption) | assumption))
           have n0_ := Aside0.mk (Kd.N_drew HO_6.out)
           have n1_ := Aside0.mk (below_drew1 HB.out)
           clear HO_6
           clear HB
           have HO_6 := n0_
           have HB := n1_
           clear n0_ n1_
           obtain ⟨Ao75, co75, eo75⟩ := Kd.N_slice HO_6.out
           (first | subst eo75 | (injection eo75 with f1_ f2_ f3_; have f4_ := f1_.symm; have f5_ := f3_.symm; clear f1_ f2_ f3_; subst f4_; subst f5_))
           have p510 : 0 ≤ (0 : Int) := (by omega)
           have q510 : 0 < (x6_2.length : Int) := of_decide_eq_true (by first | (with_reducible assumption) | assumption)
           obtain ⟨ad510, A510_0, c510_0, e510, hx510_0, hl510_0, hi510_0⟩ := at_L5 (Kd.N_reads' HO_6.out).2.2 0 p510 q510
           cases e510
           obtain ⟨ce510, hce510, hMe510, hcc510⟩ := Kd.N_get HO_6.out [] 0 p510 (by first | exact q510 | exact of_decide_eq_true (by first | (with_reducible assumption) | assumption) | (have e_ := (Kd.N_reads' HO_6.out).1; omega))
           obtain ⟨ua510_0, uc510_0, rfl, ul510_0, ge510_0⟩ := Kd.FK_slice_open hMe510
           have hv510_0 := hcc510 0 _ rfl
           rw [Nat.add_zero, show ((Kd.slice 45 k45)).sz = 1 from rfl, Nat.mul_one] at hv510_0
           replace hv510_0 := Option.some.inj (hv510_0.symm.trans hx510_0)
           injection hv510_0 with hva_ hvn_ hvc_
           rw [hva_] at ge510_0
           rw [hvc_] at ul510_0
           have HL510_0 := Aside0.mk (show Kd.V k45 45 _ w.heap.size _ _ (rd_L5 x6_2 0) from Kd.V_mk ul510_0 ge510_0)
           clear hva_ hvn_ hvc_ ge510_0 ul510_0
           clear hcc510 hce510
           have qi510 : (0 < x6_2.length) = True := eq_true (by omega)
           (try rw [show ((0 : Int)).toNat = 0 from rfl] at hx510_0)
           (try rw [Addr.add_zero'] at hx510_0)
           have HR510_0 := Aside0.mk hi510_0
           have HC510_0 := Aside0.mk hl510_0
           clear hi510_0 hl510_0
           replace p510 := eq_true p510
           replace q510 := eq_true q510
           refine start_ (n := 17) (S := fun w' => w'.cell? ad510 = some (.slice A510_0 (rd_L5 x6_2 0).length c510_0)) (ds := []) x23tr17_0 (by kernel_rfl) rfl rfl (hx510_0) (fun hHeld => ?_); refine with_tabW cantonlaw11_OwnedMoves.tab20 cantonlaw11_OwnedMoves.bits20 (fun HT_ HW_ => ?_)
           generalize wr.drew = w74 at HO_6 HB HL510_0 HR510_0 hx510_0 hHeld ⊢
           refine pA_ 0 105 x23tr17_1 HT_.out ?_
           refine pA_ 1 106 x23tr17_2 HT_.out ?_
           refine pA_ 2 107 x23tr17_3 HT_.out ?_
           refine pA_ 3 108 x23tr17_4 HT_.out ?_
           refine pA_ 5 110 x23tr17_m11110100000000000 HT_.out ?_
           refine pA_ 8 113 x23tr17_m11110100100000000 HT_.out ?_
           refine pA_ 9 114 x23tr17_m11110100110000000 HT_.out ?_
           refine pA_ 10 115 x23tr17_m11110100111000000 HT_.out ?_
           refine pA_ 11 116 x23tr17_m11110100111100000 HT_.out ?_
           refine take_ (i := 4) (N := some 109) (v := ?_) (a' := ?_) x23tr17_m11111100111100000 rfl rfl (take_ofW HT_.out HW_.out (by kernel_rfl)) (fun _ _ _ h => h) (Or.inl ⟨by rfl, ?_⟩) hHeld ?_ ?_
           rotate_left
           ·intro w' s0
            go_simp
            with_reducible rfl
           rotate_left
           ·simp only [Act.put, List.setIfInBounds_toArray, List.set_cons_zero, List.set_cons_succ, i64_w, i32_w]
            rfl
           refine join_ (σ := Value × Addr) 3 x23tr17_14 (fun s_ => [(111, .int .i64 t511), (112, s_.1), (118, .int .i64 (rd y512 (ji71))), (117, .pointer (some (s_.2.add ((ji71)).toNat)))]) (fun s_ w' => (w'.cell? ad510 = some (.slice A510_0 (rd_L5 x6_2 0).length c510_0)) ∧ (Kd.V k45 45 w' w.heap.size (fun k_ => some k_ ≠ (s_.1 : Value).ownBlock ∧ some k_ ≠ (.slice (some ad510) x6_2.length co75 : Value).ownBlock) (.slice A510_0 (rd_L5 x6_2 0).length c510_0) (rd_L5 x6_2 0)) ∧ (Kd.R (Kd.int .i64) 3 w' w.heap.size (fun _ => True) s_.1 y512) ∧ (Kd.N (Kd.slice 45 k45) 22 w' w.heap.size (fun k_ => some k_ ≠ (s_.1 : Value).ownBlock) (.slice (some ad510) x6_2.length co75) x6_2) ∧ (∃ c_, (s_.1 : Value) = .slice (some s_.2) y512.length c_) ∧ (Below w.heap.size w w')) ?_ ?_
           rotate_left
           ·intro hCont
            refine two_ (i := 6) (j := 7) (Ni := some 111) (Nj := some 112) x23tr17_m11111110111100000 x23tr17_m11111101111100000 rfl rfl rfl rfl (two_of HT_.out (by kernel_rfl)) (by decide) (by decide) (fun K hK => ?_) (fun K hK => ?_)
            ·skip
             refine goes_ Try.func21 (by kernel_rfl) rfl #[.slice A510_0 (rd_L5 x6_2 0).length c510_0, .string a0] (by rfl) rfl rfl (by (try simp only [List.map_toArray, List.map_cons, List.map_nil]); first | done | rfl | (simp only [List.length_drop, List.length_take]; rfl)) ?_
             with_reducible refine (owned_State.calls k2 _ _ (rd_L5 x6_2 0) a0 t511 _ ?side1 ?side2 A70.out).mono ?_
             (case side1 => repeat (first | exact (by repeat (first | (with_reducible exact HR510_0.out) | (with_reducible refine Kd.C_alloc ?_ _) | (with_reducible refine Kd.C_drewN ?_ _) | (with_reducible refine Kd.C_drew ?_) | exact HR510_0.out)) | (with_reducible refine Kd.C_alloc ?_ _) | (with_reducible refine Kd.C_drewN ?_ _) | (with_reducible refine Kd.C_drew ?_)))
             (case side2 => exact HC510_0.out)
             rintro e w76 ⟨rfl, hb⟩
             have HS0_ := (hb.cell (World.block_lt_of_cell? _ _ (hHeld))).trans (hHeld)
             refine ⟨_, rfl, ?_⟩
             have n0_ := Aside0.mk (Kd.N_below (by (with_reducible repeat (first | apply Kd.N_alloc | apply Kd.N_drewN | apply Kd.N_drew)); exact HO_6.out) hb)
             have n1_ := Aside0.mk (Kd.V_below (by (with_reducible repeat (first | apply Kd.V_alloc | apply Kd.V_drewN | apply Kd.V_drew)); exact HL510_0.out) hb)
             have n2_ := Aside0.mk (Kd.C_below (by repeat (first | (with_reducible exact HR510_0.out) | (with_reducible refine Kd.C_alloc ?_ _) | (with_reducible refine Kd.C_drewN ?_ _) | (with_reducible refine Kd.C_drew ?_) | exact HR510_0.out)) hb)
             have n3_ := Aside0.mk (below_step (kZ HB) hb)
             clear HO_6
             clear HL510_0
             clear HR510_0
             clear HB
             have HO_6 := n0_
             have HL510_0 := n1_
             have HR510_0 := n2_
             have HB := n3_
             clear n0_ n1_ n2_ n3_
             (try clear hb)
             (try clear hb2)
             (try clear hk)
             (try clear hi)
             refine hK.out _ _ (HS0_) (fun hHeld => ?_)
             clear hK K
             refine norm_ (a' := ?_) ?_ ?_
             rotate_left
             ·show Act.put _ (some 111) _ = _
              simp only [Act.put, List.setIfInBounds_toArray, List.set_cons_zero, List.set_cons_succ, i64_w, i32_w]
              rfl
             refine one_ (i := 7) (N := some 112) x23tr17_12 rfl rfl (one_of HT_.out (by kernel_rfl)) (by decide) (fun K hK => ?_)
             refine Kd.R_lit_step (Kd.int .i64) _ 3 ?hg (N := 112) ?hd (xs := ([1, 3] : List Int)) (inner := [.int .i64 1, .int .i64 3]) (ok := fun _ => True) (okp := fun _ => True) ?hr ?hp (fun _ hk => hk) trivial (Below.refl _ _) (Nat.le_refl _) (by simp) ?_; (case hd => rfl); (case hg => rfl); (case hr => first | (go_simp; done) | (go_simp; rfl)); (case hp => exact (Reps.one (show Kd.M (Kd.int .i64) _ _ _ 1 [.int .i64 1] from rfl) (Reps.one (show Kd.M (Kd.int .i64) _ _ _ 3 [.int .i64 3] from rfl) (Reps.none _ _))))
             intro v513 w77 ho78 hb hg_ hnew_
             have HS0_ := (hb.cell (World.block_lt_of_cell? _ _ (hHeld))).trans (hHeld)
             clear hg_ hnew_
             (first | rw [← Ny512.out] at ho78 | (simp only [Int.reduceToNat] at ho78; rw [← Ny512.out] at ho78))
             have n0_ := Aside0.mk (Kd.N_elder' (by (with_reducible repeat (first | apply Kd.N_alloc | apply Kd.N_drewN | apply Kd.N_drew)); exact HO_6.out) (Kd.R_base ho78) hb)
             have n1_ := Aside0.mk (Kd.V_elder' (by (with_reducible repeat (first | apply Kd.V_alloc | apply Kd.V_drewN | apply Kd.V_drew)); exact HL510_0.out) (Kd.R_base ho78) hb)
             have n2_ := Aside0.mk (Kd.R_lower ho78 (below_size (kZ HB)))
             have n3_ := Aside0.mk (Kd.C_below (by repeat (first | (with_reducible exact HR510_0.out) | (with_reducible refine Kd.C_alloc ?_ _) | (with_reducible refine Kd.C_drewN ?_ _) | (with_reducible refine Kd.C_drew ?_) | exact HR510_0.out)) hb)
             have n4_ := Aside0.mk (below_step (kZ HB) hb)
             clear HO_6
             clear HL510_0
             clear HR510_0
             clear HB
             have HO_6 := n0_
             have HL510_0 := n1_
             have HO514 := n2_
             have HR510_0 := n3_
             have HB := n4_
             clear n0_ n1_ n2_ n3_ n4_
             clear hb ho78
             obtain ⟨Ao79, co79, eo79⟩ := Kd.R_slice HO514.out
             subst eo79
             obtain ⟨ado79, fo79, _⟩ := Kd.at_int (Kd.R_reads' HO514.out).2.2 0 (by decide) (by rw [Ny512.out]; simp)
             cases fo79
             refine hK.out _ _ (HS0_) (fun hHeld => ?_)
             clear hK K
             refine norm_ (a' := ?_) ?_ ?_
             rotate_left
             ·show Act.put _ (some 112) _ = _
              simp only [Act.put, List.setIfInBounds_toArray, List.set_cons_zero, List.set_cons_succ, i64_w, i32_w]
              rfl
             refine pA_ 12 117 x23tr17_13 HT_.out ?_
             refine one_ (i := 13) (N := some 118) x23tr17_14 rfl rfl (one_of HT_.out (by kernel_rfl)) (by decide) (fun K hK => ?_)
             (have p515 : 0 ≤ ((ji71) : Int) := of_decide_eq_true (by first | (with_reducible assumption) | assumption); have q515 : (ji71) < (y512.length : Int) := of_decide_eq_true (by first | (with_reducible assumption) | assumption); obtain ⟨ad515, e515, hx515_0⟩ := Kd.at_int (Kd.R_reads' HO514.out).2.2 (ji71) p515 q515; obtain rfl : ado79 = ad515 := (by injection e515))
             refine value_ (w1 := ?_) (v := ?_) (by rfl) rfl ?_ ?_
             rotate_left 2
             ·go_simp
              constructor
              ·rfl
              ·rfl
             clear hx515_0
             refine hK.out _ _ (hHeld) (fun hHeld => ?_)
             clear hK K
             refine norm_ (a' := ?_) ?_ ?_
             rotate_left
             ·show Act.put _ (some 118) _ = _
              simp only [Act.put, List.setIfInBounds_toArray, List.set_cons_zero, List.set_cons_succ, i64_w, i32_w]
              rfl
             exact norm_ (by simp only [putAll, Act.put, List.setIfInBounds_toArray, List.set_cons_zero, List.set_cons_succ]) (hCont (.slice (some ado79) y512.length co79, ado79) _ ⟨hHeld, (by (with_reducible repeat (first | apply Kd.V_alloc | apply Kd.V_drewN | apply Kd.V_drew)); exact Kd.V_mono HL510_0.out (fun _ hk => ⟨hk.2, hk.1.2⟩)), (kR HO514), (by (with_reducible repeat (first | apply Kd.N_alloc | apply Kd.N_drewN | apply Kd.N_drew)); exact Kd.N_mono HO_6.out (fun _ hk => hk.2)), ⟨_, rfl⟩, (kZ HB)⟩)
            ·skip
             refine Kd.R_lit_step (Kd.int .i64) _ 3 ?hg (N := 112) ?hd (xs := ([1, 3] : List Int)) (inner := [.int .i64 1, .int .i64 3]) (ok := fun _ => True) (okp := fun _ => True) ?hr ?hp (fun _ hk => hk) trivial (Below.refl _ _) (Nat.le_refl _) (by simp) ?_; (case hd => rfl); (case hg => rfl); (case hr => first | (go_simp; done) | (go_simp; rfl)); (case hp => exact (Reps.one (show Kd.M (Kd.int .i64) _ _ _ 1 [.int .i64 1] from rfl) (Reps.one (show Kd.M (Kd.int .i64) _ _ _ 3 [.int .i64 3] from rfl) (Reps.none _ _))))
             intro v513 w76 ho77 hb hg_ hnew_
             have HS0_ := (hb.cell (World.block_lt_of_cell? _ _ (hHeld))).trans (hHeld)
             clear hg_ hnew_
             (first | rw [← Ny512.out] at ho77 | (simp only [Int.reduceToNat] at ho77; rw [← Ny512.out] at ho77))
             have n0_ := Aside0.mk (Kd.N_elder' (by (with_reducible repeat (first | apply Kd.N_alloc | apply Kd.N_drewN | apply Kd.N_drew)); exact HO_6.out) (Kd.R_base ho77) hb)
             have n1_ := Aside0.mk (Kd.V_elder' (by (with_reducible repeat (first | apply Kd.V_alloc | apply Kd.V_drewN | apply Kd.V_drew)); exact HL510_0.out) (Kd.R_base ho77) hb)
             have n2_ := Aside0.mk (Kd.R_lower ho77 (below_size (kZ HB)))
             have n3_ := Aside0.mk (Kd.C_below (by repeat (first | (with_reducible exact HR510_0.out) | (with_reducible refine Kd.C_alloc ?_ _) | (with_reducible refine Kd.C_drewN ?_ _) | (with_reducible refine Kd.C_drew ?_) | exact HR510_0.out)) hb)
             have n4_ := Aside0.mk (below_step (kZ HB) hb)
             clear HO_6
             clear HL510_0
             clear HR510_0
             clear HB
             have HO_6 := n0_
             have HL510_0 := n1_
             have HO514 := n2_
             have HR510_0 := n3_
             have HB := n4_
             clear n0_ n1_ n2_ n3_ n4_
             clear hb ho77
             obtain ⟨Ao78, co78, eo78⟩ := Kd.R_slice HO514.out
             subst eo78
             obtain ⟨ado78, fo78, _⟩ := Kd.at_int (Kd.R_reads' HO514.out).2.2 0 (by decide) (by rw [Ny512.out]; simp)
             cases fo78
             refine hK.out _ _ (HS0_) (fun hHeld => ?_)
             clear hK K
             refine norm_ (a' := ?_) ?_ ?_
             rotate_left
             ·show Act.put _ (some 112) _ = _
              simp only [Act.put, List.setIfInBounds_toArray, List.set_cons_zero, List.set_cons_succ, i64_w, i32_w]
              rfl
             refine pA_ 12 117 x23tr17_m11111101111110000 HT_.out ?_
             refine two_ (i := 6) (j := 13) (Ni := some 111) (Nj := some 118) x23tr17_13 x23tr17_m11111101111111000 rfl rfl rfl rfl (two_of HT_.out (by kernel_rfl)) (by decide) (by decide) (fun K hK => ?_) (fun K hK => ?_)
             ·skip
              refine goes_ Try.func21 (by kernel_rfl) rfl #[.slice A510_0 (rd_L5 x6_2 0).length c510_0, .string a0] (by rfl) rfl rfl (by (try simp only [List.map_toArray, List.map_cons, List.map_nil]); first | done | rfl | (simp only [List.length_drop, List.length_take]; rfl)) ?_
              with_reducible refine (owned_State.calls k2 _ _ (rd_L5 x6_2 0) a0 t511 _ ?side1 ?side2 A70.out).mono ?_
              (case side1 => repeat (first | exact (by repeat (first | (with_reducible exact HR510_0.out) | (with_reducible refine Kd.C_alloc ?_ _) | (with_reducible refine Kd.C_drewN ?_ _) | (with_reducible refine Kd.C_drew ?_) | exact HR510_0.out)) | (with_reducible refine Kd.C_alloc ?_ _) | (with_reducible refine Kd.C_drewN ?_ _) | (with_reducible refine Kd.C_drew ?_)))
              (case side2 => exact HC510_0.out)
              rintro e w79 ⟨rfl, hb⟩
              have HS0_ := (hb.cell (World.block_lt_of_cell? _ _ (hHeld))).trans (hHeld)
              refine ⟨_, rfl, ?_⟩
              have n0_ := Aside0.mk (Kd.N_below (by (with_reducible repeat (first | apply Kd.N_alloc | apply Kd.N_drewN | apply Kd.N_drew)); exact HO_6.out) hb)
              have n1_ := Aside0.mk (Kd.V_below (by (with_reducible repeat (first | apply Kd.V_alloc | apply Kd.V_drewN | apply Kd.V_drew)); exact HL510_0.out) hb)
              have n2_ := Aside0.mk (Kd.R_below (kR HO514) hb)
              have n3_ := Aside0.mk (Kd.C_below (by repeat (first | (with_reducible exact HR510_0.out) | (with_reducible refine Kd.C_alloc ?_ _) | (with_reducible refine Kd.C_drewN ?_ _) | (with_reducible refine Kd.C_drew ?_) | exact HR510_0.out)) hb)
              have n4_ := Aside0.mk (below_step (kZ HB) hb)
              clear HO_6
              clear HL510_0
              clear HO514
              clear HR510_0
              clear HB
              have HO_6 := n0_
              have HL510_0 := n1_
              have HO514 := n2_
              have HR510_0 := n3_
              have HB := n4_
              clear n0_ n1_ n2_ n3_ n4_
              (try clear hb)
              (try clear hb2)
              (try clear hk)
              (try clear hi)
              refine hK.out _ _ (HS0_) (fun hHeld => ?_)
              clear hK K
              refine norm_ (a' := ?_) ?_ ?_
              rotate_left
              ·show Act.put _ (some 111) _ = _
               simp only [Act.put, List.setIfInBounds_toArray, List.set_cons_zero, List.set_cons_succ, i64_w, i32_w]
               rfl
              refine one_ (i := 13) (N := some 118) x23tr17_14 rfl rfl (one_of HT_.out (by kernel_rfl)) (by decide) (fun K hK => ?_)
              (have p515 : 0 ≤ ((ji71) : Int) := of_decide_eq_true (by first | (with_reducible assumption) | assumption); have q515 : (ji71) < (y512.length : Int) := of_decide_eq_true (by first | (with_reducible assumption) | assumption); obtain ⟨ad515, e515, hx515_0⟩ := Kd.at_int (Kd.R_reads' HO514.out).2.2 (ji71) p515 q515; obtain rfl : ado78 = ad515 := (by injection e515))
              refine value_ (w1 := ?_) (v := ?_) (by rfl) rfl ?_ ?_
              rotate_left 2
              ·go_simp
               constructor
               ·rfl
               ·rfl
              clear hx515_0
              refine hK.out _ _ (hHeld) (fun hHeld => ?_)
              clear hK K
              refine norm_ (a' := ?_) ?_ ?_
              rotate_left
              ·show Act.put _ (some 118) _ = _
               simp only [Act.put, List.setIfInBounds_toArray, List.set_cons_zero, List.set_cons_succ, i64_w, i32_w]
               rfl
              exact norm_ (by simp only [putAll, Act.put, List.setIfInBounds_toArray, List.set_cons_zero, List.set_cons_succ]) (hCont (.slice (some ado78) y512.length co78, ado78) _ ⟨hHeld, (by (with_reducible repeat (first | apply Kd.V_alloc | apply Kd.V_drewN | apply Kd.V_drew)); exact Kd.V_mono HL510_0.out (fun _ hk => ⟨hk.2, hk.1.2⟩)), (kR HO514), (by (with_reducible repeat (first | apply Kd.N_alloc | apply Kd.N_drewN | apply Kd.N_drew)); exact Kd.N_mono HO_6.out (fun _ hk => hk.2)), ⟨_, rfl⟩, (kZ HB)⟩)
             ·skip
              (have p515 : 0 ≤ ((ji71) : Int) := of_decide_eq_true (by first | (with_reducible assumption) | assumption); have q515 : (ji71) < (y512.length : Int) := of_decide_eq_true (by first | (with_reducible assumption) | assumption); obtain ⟨ad515, e515, hx515_0⟩ := Kd.at_int (Kd.R_reads' HO514.out).2.2 (ji71) p515 q515; obtain rfl : ado78 = ad515 := (by injection e515))
              refine value_ (w1 := ?_) (v := ?_) (by rfl) rfl ?_ ?_
              rotate_left 2
              ·go_simp
               constructor
               ·rfl
               ·rfl
              clear hx515_0
              refine hK.out _ _ (hHeld) (fun hHeld => ?_)
              clear hK K
              refine norm_ (a' := ?_) ?_ ?_
              rotate_left
              ·show Act.put _ (some 118) _ = _
               simp only [Act.put, List.setIfInBounds_toArray, List.set_cons_zero, List.set_cons_succ, i64_w, i32_w]
               rfl
              refine one_ (i := 6) (N := some 111) x23tr17_14 rfl rfl (one_of HT_.out (by kernel_rfl)) (by decide) (fun K hK => ?_)
              refine goes_ Try.func21 (by kernel_rfl) rfl #[.slice A510_0 (rd_L5 x6_2 0).length c510_0, .string a0] (by rfl) rfl rfl (by (try simp only [List.map_toArray, List.map_cons, List.map_nil]); first | done | rfl | (simp only [List.length_drop, List.length_take]; rfl)) ?_
              with_reducible refine (owned_State.calls k2 _ _ (rd_L5 x6_2 0) a0 t511 _ ?side1 ?side2 A70.out).mono ?_
              (case side1 => repeat (first | exact (by repeat (first | (with_reducible exact HR510_0.out) | (with_reducible refine Kd.C_alloc ?_ _) | (with_reducible refine Kd.C_drewN ?_ _) | (with_reducible refine Kd.C_drew ?_) | exact HR510_0.out)) | (with_reducible refine Kd.C_alloc ?_ _) | (with_reducible refine Kd.C_drewN ?_ _) | (with_reducible refine Kd.C_drew ?_)))
              (case side2 => exact HC510_0.out)
              rintro e w79 ⟨rfl, hb⟩
              have HS0_ := (hb.cell (World.block_lt_of_cell? _ _ (hHeld))).trans (hHeld)
              refine ⟨_, rfl, ?_⟩
              have n0_ := Aside0.mk (Kd.N_below (by (with_reducible repeat (first | apply Kd.N_alloc | apply Kd.N_drewN | apply Kd.N_drew)); exact HO_6.out) hb)
              have n1_ := Aside0.mk (Kd.V_below (by (with_reducible repeat (first | apply Kd.V_alloc | apply Kd.V_drewN | apply Kd.V_drew)); exact HL510_0.out) hb)
              have n2_ := Aside0.mk (Kd.R_below (kR HO514) hb)
              have n3_ := Aside0.mk (Kd.C_below (by repeat (first | (with_reducible exact HR510_0.out) | (with_reducible refine Kd.C_alloc ?_ _) | (with_reducible refine Kd.C_drewN ?_ _) | (with_reducible refine Kd.C_drew ?_) | exact HR510_0.out)) hb)
              have n4_ := Aside0.mk (below_step (kZ HB) hb)
              clear HO_6
              clear HL510_0
              clear HO514
              clear HR510_0
              clear HB
              have HO_6 := n0_
              have HL510_0 := n1_
              have HO514 := n2_
              have HR510_0 := n3_
              have HB := n4_
              clear n0_ n1_ n2_ n3_ n4_
              (try clear hb)
              (try clear hb2)
              (try clear hk)
              (try clear hi)
              refine hK.out _ _ (HS0_) (fun hHeld => ?_)
              clear hK K
              refine norm_ (a' := ?_) ?_ ?_
              rotate_left
              ·show Act.put _ (some 111) _ = _
               simp only [Act.put, List.setIfInBounds_toArray, List.set_cons_zero, List.set_cons_succ, i64_w, i32_w]
               rfl
              exact norm_ (by simp only [putAll, Act.put, List.setIfInBounds_toArray, List.set_cons_zero, List.set_cons_succ]) (hCont (.slice (some ado78) y512.length co78, ado78) _ ⟨hHeld, (by (with_reducible repeat (first | apply Kd.V_alloc | apply Kd.V_drewN | apply Kd.V_drew)); exact Kd.V_mono HL510_0.out (fun _ hk => ⟨hk.2, hk.1.2⟩)), (kR HO514), (by (with_reducible repeat (first | apply Kd.N_alloc | apply Kd.N_drewN | apply Kd.N_drew)); exact Kd.N_mono HO_6.out (fun _ hk => hk.2)), ⟨_, rfl⟩, (kZ HB)⟩)
           rintro ⟨v513, adz_v513⟩ w80 ⟨hS_, h0_, h1_, h2_, h3_, h4_⟩
           have n0_ : Aside0 (Kd.V k45 45 w80 w.heap.size (fun k_ => some k_ ≠ (v513 : Value).ownBlock ∧ some k_ ≠ (.slice (some ad510) x6_2.length co75 : Value).ownBlock) (.slice A510_0 (rd_L5 x6_2 0).length c510_0) (rd_L5 x6_2 0)) := ⟨h0_⟩
           have n1_ : Aside0 (Kd.R (Kd.int .i64) 3 w80 w.heap.size (fun _ => True) v513 y512) := ⟨h1_⟩
           have n2_ : Aside0 (Kd.N (Kd.slice 45 k45) 22 w80 w.heap.size (fun k_ => some k_ ≠ (v513 : Value).ownBlock) (.slice (some ad510) x6_2.length co75) x6_2) := ⟨h2_⟩
           have n3_ : Aside0 (∃ c_, (v513 : Value) = .slice (some adz_v513) y512.length c_) := ⟨h3_⟩
           have n4_ : Aside0 (Below w.heap.size w w80) := ⟨h4_⟩
           clear HO_6
           clear HB
           clear h0_ h1_ h2_ h3_ h4_
           have HL510_0 := n0_
           have HO514 := n1_
           have HO_6 := n2_
           have HA_HO514 := n3_
           have HB := n4_
           clear n0_ n1_ n2_ n3_ n4_
           have hHeld : w80.cell? ad510 = some (.slice A510_0 (rd_L5 x6_2 0).length c510_0) := hS_
           obtain ⟨co81, eo81⟩ := HA_HO514.out
           clear HA_HO514
           subst eo81
           refine norm_ (a' := ?_) ?_ ?_
           rotate_left
           ·simp only [putAll, Act.put, List.setIfInBounds_toArray, List.set_cons_zero, List.set_cons_succ]
            rfl
           refine pA_ 14 119 x23tr17_15 HT_.out ?_
           refine pA_ 15 120 x23tr17_16 HT_.out ?_
           refine pA_ 16 4 x23tr17_17 HT_.out ?_
           refine done_ (done_of HT_.out (by kernel_rfl)) ?_
           try go_wp2
           go_ret
           exact ⟨by first | rfl | (simp [errW_none, errW_some] <;> rfl) | (simp only [← hji71]; first | rfl | (simp [errW_none, errW_some] <;> rfl)) | (simp [*, errW_none, errW_some] <;> rfl), kZ HB⟩
          ·rw [if_neg c73] at H
           exact absurd H (by simp)
         ·rw [if_neg c72] at H
          exact absurd H (by simp)
        ·rw [if_neg c69] at H
         exact absurd H (by simp)
       ·replace c68 := Bool.eq_false_iff.mpr c68
        subst c68
        have H1 : (some false) = some r := by rw [if_neg (show ¬ (false = true) by decide)] at H; exact H
        clear H
        have H := H1
        clear H1
        obtain rfl := Option.some.inj H
        try go_wp2
        have n0_ := Aside0.mk (Kd.N_drew HO_6.out)
        have n1_ := Aside0.mk (below_drew1 HB.out)
        clear HO_6
        clear HB
        have HO_6 := n0_
        have HB := n1_
        clear n0_ n1_
        refine start_ (n := 17) (S := fun w' => True) (ds := []) x23tr17_0 (by kernel_rfl) rfl rfl trivial (fun hHeld => ?_); refine with_tabW cantonlaw11_OwnedMoves.tab20 cantonlaw11_OwnedMoves.bits20 (fun HT_ HW_ => ?_)
        generalize wr.drew = w82 at HO_6 HB hHeld ⊢
        refine pA_ 0 105 x23tr17_1 HT_.out ?_
        refine pA_ 1 106 x23tr17_2 HT_.out ?_
        refine pU_ 2 107 x23tr17_3 HT_.out ?_
        refine pU_ 3 108 x23tr17_4 HT_.out ?_
        refine pU_ 4 109 x23tr17_5 HT_.out ?_
        refine pU_ 5 110 x23tr17_6 HT_.out ?_
        refine pU_ 6 111 x23tr17_7 HT_.out ?_
        refine pU_ 7 112 x23tr17_8 HT_.out ?_
        refine pU_ 8 113 x23tr17_9 HT_.out ?_
        refine pU_ 9 114 x23tr17_10 HT_.out ?_
        refine pU_ 10 115 x23tr17_11 HT_.out ?_
        refine pU_ 11 116 x23tr17_12 HT_.out ?_
        refine pU_ 12 117 x23tr17_13 HT_.out ?_
        refine pU_ 13 118 x23tr17_14 HT_.out ?_
        refine pU_ 14 119 x23tr17_15 HT_.out ?_
        refine pA_ 15 120 x23tr17_16 HT_.out ?_
        refine pA_ 16 4 x23tr17_17 HT_.out ?_
        refine done_ (done_of HT_.out (by kernel_rfl)) ?_
        try go_wp2
        go_ret
        exact ⟨by first | rfl | (simp [errW_none, errW_some] <;> rfl) | (simp [*, errW_none, errW_some] <;> rfl), kZ HB⟩

/-- THE ONE PURE STATEMENT of cantonlaw11_OwnedMoves: yours. -/
def cantonlaw11_OwnedMoves.Pure : Prop := ∀ (a0 : ByteArray) (a1 : Int), a0.size ≤ 140737488351232 → (Lit.int .u8 a1).wf = true → ∃ k, cantonlaw11_OwnedMoves.f k a0 a1 = some true
theorem cantonlaw11_OwnedMoves.walk (P : cantonlaw11_OwnedMoves.Pure) (a0 : ByteArray) (a1 : Int) (w : World) (w0 : a0.size ≤ 140737488351232) (w1 : (Lit.int .u8 a1).wf = true) :
  Calls Try.prog 7 #[.string a0, .int .u8 a1] w fun e w' => e = .returned (.bool true) ∧ Below w.heap.size w w' := by
 obtain ⟨k, h⟩ := P a0 a1 w0 w1
 refine (cantonlaw11_OwnedMoves.calls k a0 a1 true w h).mono ?_
 rintro e w' ⟨rfl, hd⟩
 exact ⟨rfl, hd⟩

end Go.Proofs.Ytinjajpnbbknnaa.Q
