-- Written by a program of this session (xprint) out of the translation; over contracts proved by hand.
import Derived.WalkLawsBesides
import Derived.Test.YtinjajpnbbknnaaQx0
import Derived.Test.YtinjajpnbbknnaaSq
namespace Go.Proofs.Ytinjajpnbbknnaa.Cut2
end Go.Proofs.Ytinjajpnbbknnaa.Cut2
namespace Go.Proofs.Ytinjajpnbbknnaa.RPut
end Go.Proofs.Ytinjajpnbbknnaa.RPut
namespace Go.Proofs.Ytinjajpnbbknnaa.Split
end Go.Proofs.Ytinjajpnbbknnaa.Split
namespace Go.Proofs.Ytinjajpnbbknnaa.Q
open Go.Proofs.Ytinjajpnbbknnaa.Cut2 Go.Proofs.Ytinjajpnbbknnaa.RPut Go.Proofs.Ytinjajpnbbknnaa.Split
set_option linter.unnecessarySimpa false
open Go.RowKit Go.Proofs.YtinjajpnbbknnaaW.PrintWords Go.Proofs.YtinjajpnbbknnaaW.PrintLast Go.Proofs.YtinjajpnbbknnaaW.PrintMore
attribute [local go_sem] max2_int min2_int max_two min_two max_three min_three max_four min_four   -- for this text's walks alone
set_option linter.unusedVariables false
set_option linter.unusedSimpArgs false

/-! ### cantonlaw06_Great: function 38 -/
def cantonlaw06_Great.l0 : Nat → List (S40) → Int → Int → Option (Bool)
 | 0, _, _, _ => none
 | k + 1, x0, x3, x4 => if x4 < (x0.length : Int) then (if x3 < 5000 then (if 0 ≤ x4 then (cantonlaw06_Great.l0 k x0 (wrap64 ((wrap64 (x3 + (mn (((rd_T40 x0 x4).f0).size : Int) 5000))) + (mn (((rd_T40 x0 x4).f1).size : Int) 5000))) (wrap64 (x4 + 1))) else (none)) else (some (decide (x3 ≥ 5000)))) else (some (decide (x3 ≥ 5000)))
def cantonlaw06_Great.f (k : Nat) (l0 : List (S40)) : Option (Bool) := cantonlaw06_Great.l0 k l0 (wrap64 (3 * (l0.length : Int))) 0
theorem cantonlaw06_Great.mono_l : ∀ k, (∀ y0 y1 y2, LeO (cantonlaw06_Great.l0 k y0 y1 y2) (cantonlaw06_Great.l0 (k + 1) y0 y1 y2))
 | 0 => fun _ _ _ r h => by simp [cantonlaw06_Great.l0] at h
 | k + 1 => by
  have ih0 := cantonlaw06_Great.mono_l k
  ·intro y0 y1 y2
   unfold cantonlaw06_Great.l0
   repeat' first
   | (with_reducible exact ih0 _ _ _)
   | (with_reducible exact LeO.refl _)
   | (with_reducible exact LeO.none _)
   | (with_reducible refine LeO.ite ?_ ?_)
   | (with_reducible refine LeO.bind ?_ (fun _ => ?_))
   | exact ih0 _ _ _
   | exact LeO.none _
   | refine LeO.ite ?_ ?_
   | refine LeO.bind ?_ (fun _ => ?_)
theorem cantonlaw06_Great.mono : ∀ a0 k, LeO (cantonlaw06_Great.f k a0) (cantonlaw06_Great.f (k + 1) a0) := by
 intro a0 k
 have ih0 := cantonlaw06_Great.mono_l k
 unfold cantonlaw06_Great.f
 repeat' first
   | (with_reducible exact ih0 _ _ _)
   | (with_reducible exact LeO.refl _)
   | (with_reducible exact LeO.none _)
   | (with_reducible refine LeO.ite ?_ ?_)
   | (with_reducible refine LeO.bind ?_ (fun _ => ?_))
   | exact ih0 _ _ _
   | exact LeO.none _
   | refine LeO.ite ?_ ?_
   | refine LeO.bind ?_ (fun _ => ?_)
set_option maxHeartbeats 8000000 in
set_option maxRecDepth 100000 in
theorem cantonlaw06_Great.calls (k : Nat) (A0 : Option Addr) (c0 : Nat) (l0 : List (S40)) (r : Bool) (w : World) (hr0 : Kd.C k40 w A0 l0.length l0) (hc0 : l0.length ≤ c0) (h : cantonlaw06_Great.f k l0 = some r) :
  Calls Try.prog 38 #[.slice A0 l0.length c0] w fun e w' => e = .returned (.bool r) ∧ Below w.heap.size w w' := by
 have HR0 := am_ hr0
 have HC0 := am_ hc0
 clear hr0 hc0
 have HB := am_ (Below.refl w.heap.size w)
 have H : (cantonlaw06_Great.l0 k l0 (wrap64 (3 * (l0.length : Int))) 0) = some r := h
 clear h
 have H' := am_ H
 clear H
 go_enter Try.func38, Try.ntmps38
 go_wp2
 repeat (go_quiet (fail); try go_wp2)
 go_loopg [3, 4] k (fun kq v3 v4 w' => ∃ (x3_1 : Int) (x4_1 : Int), v3 = .int .i64 x3_1 ∧ v4 = .int .i64 x4_1 ∧ Aside0 (cantonlaw06_Great.l0 kq l0 x3_1 x4_1 = some r) ∧ Aside0 (kq ≤ k) ∧ Aside0 (Below w.heap.size w w'))
 case atStart => exact ⟨(wrap64 (3 * (l0.length : Int))), (0), e1_, e1_, H', ⟨Nat.le_refl _⟩, ⟨kZ HB⟩⟩
 case round =>
  clear H'
  obtain ⟨x3_1, x4_1, rfl, rfl, HA, HK1, HB⟩ := hrel
  cases gk with
  | zero => exact absurd HA.out (by simp [cantonlaw06_Great.l0])
  | succ k1 =>
   have H := HA.out
   clear HA
   simp only [cantonlaw06_Great.l0] at H
   by_cases c2 : x4_1 < (l0.length : Int)
   rotate_left
   ·rw [if_neg c2] at H
    have c2b0 : decide (x4_1 < (l0.length : Int)) = false := decide_eq_false c2
    clear c2
    obtain rfl := Option.some.inj H
    go_wp2
    repeat (go_quiet (fail); try go_wp2)
    go_ret
    exact ⟨e2_, kZ HB⟩
   rw [if_pos c2] at H
   have c2b0 : decide (x4_1 < (l0.length : Int)) = true := decide_eq_true c2
   clear c2
   by_cases c3 : x3_1 < 5000
   rotate_left
   ·rw [if_neg c3] at H
    have c3b0 : decide (x3_1 < 5000) = false := decide_eq_false c3
    clear c3
    obtain rfl := Option.some.inj H
    go_wp2
    repeat (go_quiet (fail); try go_wp2)
    go_ret
    exact ⟨e2_, kZ HB⟩
   rw [if_pos c3] at H
   have c3b0 : decide (x3_1 < 5000) = true := decide_eq_true c3
   clear c3
   by_cases c4 : 0 ≤ x4_1
   rotate_left
   ·rw [if_neg c4] at H
    exact absurd H (by simp)
   rw [if_pos c4] at H
   have c4b0 : decide (0 ≤ x4_1) = true := decide_eq_true c4
   clear c4
   obtain ⟨ji5, hji5⟩ : ∃ j_ : Int, (mn (((rd_T40 l0 x4_1).f0).size : Int) 5000) = j_ := ⟨_, rfl⟩
   replace H : (cantonlaw06_Great.l0 k1 l0 (wrap64 ((wrap64 (x3_1 + (ji5))) + (mn (((rd_T40 l0 x4_1).f1).size : Int) 5000))) (wrap64 (x4_1 + 1))) = some r := by first | (rw [hji5] at H; exact H) | (simp only [hji5] at H ⊢; exact H)
   have hji5_ : (if 5000 < (((rd_T40 l0 x4_1).f0).size : Int) then 5000 else (((rd_T40 l0 x4_1).f0).size : Int)) = ji5 := hji5
   obtain ⟨ji6, hji6⟩ : ∃ j_ : Int, (mn (((rd_T40 l0 x4_1).f1).size : Int) 5000) = j_ := ⟨_, rfl⟩
   replace H : (cantonlaw06_Great.l0 k1 l0 (wrap64 ((wrap64 (x3_1 + (ji5))) + (ji6))) (wrap64 (x4_1 + 1))) = some r := by first | (rw [hji6] at H; exact H) | (simp only [hji6] at H ⊢; exact H)
   have hji6_ : (if 5000 < (((rd_T40 l0 x4_1).f1).size : Int) then 5000 else (((rd_T40 l0 x4_1).f1).size : Int)) = ji6 := hji6
   have H' := am_ H
   clear H
   have p327 : 0 ≤ (x4_1 : Int) := od_
   have q327 : x4_1 < (l0.length : Int) := od_
   obtain ⟨ad327, e327, hx327_0, hx327_1, hx327_2, hx327_3, hx327_4⟩ := at_T40 HR0.out x4_1 p327 q327
   cases e327
   replace hx327_0 := pw_cell_below HB.out hx327_0
   replace hx327_1 := pw_cell_below HB.out hx327_1
   replace hx327_2 := pw_cell_below HB.out hx327_2
   replace hx327_3 := pw_cell_below HB.out hx327_3
   replace hx327_4 := pw_cell_below HB.out hx327_4
   replace p327 := eq_true p327
   replace q327 := eq_true q327
   have p328 : 0 ≤ (x4_1 : Int) := od_
   have q328 : x4_1 < (l0.length : Int) := od_
   obtain ⟨ad328, e328, hx328_0, hx328_1, hx328_2, hx328_3, hx328_4⟩ := at_T40 HR0.out x4_1 p328 q328
   obtain rfl : ad327 = ad328 := (by injection e328)
   replace hx328_0 := pw_cell_below HB.out hx328_0
   replace hx328_1 := pw_cell_below HB.out hx328_1
   replace hx328_2 := pw_cell_below HB.out hx328_2
   replace hx328_3 := pw_cell_below HB.out hx328_3
   replace hx328_4 := pw_cell_below HB.out hx328_4
   replace p328 := eq_true p328
   replace q328 := eq_true q328
   go_wp2
   repeat (go_quiet (fail); try go_wp2)
   go_roundg k1
   case measure => have := HK1.out; omega
   case rel => exact ⟨(wrap64 ((wrap64 (x3_1 + (ji5))) + (ji6))), (wrap64 (x4_1 + 1)), (by first | rfl | (simp; done) | (simp only [← hji5, ← hji6] <;> (first | rfl | simp)) | (simp [*]; done)), e1_, H', ⟨by have := HK1.out; omega⟩, ⟨kZ HB⟩⟩
end Go.Proofs.Ytinjajpnbbknnaa.Q
