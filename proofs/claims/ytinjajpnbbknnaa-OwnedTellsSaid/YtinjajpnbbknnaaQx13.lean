-- Written by a program of this session (xprint) out of the translation; over contracts proved by hand.
import Derived.Test.YtinjajpnbbknnaaQx0
import Derived.Test.YtinjajpnbbknnaaSq
import Derived.Test.YtinjajpnbbknnaaQx9
import Derived.Test.YtinjajpnbbknnaaQx10
import Derived.Test.YtinjajpnbbknnaaQx12
namespace Go.Proofs.Ytinjajpnbbknnaa.Cut2
end Go.Proofs.Ytinjajpnbbknnaa.Cut2
namespace Go.Proofs.Ytinjajpnbbknnaa.RPut
end Go.Proofs.Ytinjajpnbbknnaa.RPut
namespace Go.Proofs.Ytinjajpnbbknnaa.Split
end Go.Proofs.Ytinjajpnbbknnaa.Split
namespace Go.Proofs.Ytinjajpnbbknnaa.Q
open Go.Proofs.Ytinjajpnbbknnaa.Cut2 Go.Proofs.Ytinjajpnbbknnaa.RPut Go.Proofs.Ytinjajpnbbknnaa.Split
set_option linter.unnecessarySimpa false
open Go.RowKit Go.Proofs.YtinjajpnbbknnaaW.PrintWords Go.Proofs.YtinjajpnbbknnaaW.PrintLast Go.Proofs.YtinjajpnbbknnaaW.PrintMore
attribute [local go_sem] max2_int min2_int max_two min_two max_three min_three max_four min_four   -- for this text's walks alone
set_option linter.unusedVariables false
set_option linter.unusedSimpArgs false

/-! ### cantonref11_Find: function 33 -/
def cantonref11_Find.l0 : Nat → List (S45) → ByteArray → Int → Option (Int)
 | 0, _, _, _ => none
 | k + 1, x0, x1, x5 => if x5 < (x0.length : Int) then (if 0 ≤ x5 then (if ((rd_T45 x0 x5).f0).toList = x1.toList then (some x5) else (cantonref11_Find.l0 k x0 x1 (wrap64 (x5 + 1)))) else (none)) else (some (-1))
def cantonref11_Find.f (k : Nat) (l0 : List (S45)) (a1 : ByteArray) : Option (Int) := cantonref11_Find.l0 k l0 a1 0
theorem cantonref11_Find.mono_l : ∀ k, (∀ y0 y1 y2, LeO (cantonref11_Find.l0 k y0 y1 y2) (cantonref11_Find.l0 (k + 1) y0 y1 y2))
 | 0 => fun _ _ _ r h => by simp [cantonref11_Find.l0] at h
 | k + 1 => by
  have ih0 := cantonref11_Find.mono_l k
  ·intro y0 y1 y2
   unfold cantonref11_Find.l0
   repeat' first
   | (with_reducible exact ih0 _ _ _)
   | (with_reducible exact LeO.refl _)
   | (with_reducible exact LeO.none _)
   | (with_reducible refine LeO.ite ?_ ?_)
   | (with_reducible refine LeO.bind ?_ (fun _ => ?_))
   | exact ih0 _ _ _
   | exact LeO.none _
   | refine LeO.ite ?_ ?_
   | refine LeO.bind ?_ (fun _ => ?_)
theorem cantonref11_Find.mono : ∀ a0 a1 k, LeO (cantonref11_Find.f k a0 a1) (cantonref11_Find.f (k + 1) a0 a1) := by
 intro a0 a1 k
 have ih0 := cantonref11_Find.mono_l k
 unfold cantonref11_Find.f
 repeat' first
   | (with_reducible exact ih0 _ _ _)
   | (with_reducible exact LeO.refl _)
   | (with_reducible exact LeO.none _)
   | (with_reducible refine LeO.ite ?_ ?_)
   | (with_reducible refine LeO.bind ?_ (fun _ => ?_))
   | exact ih0 _ _ _
   | exact LeO.none _
   | refine LeO.ite ?_ ?_
   | refine LeO.bind ?_ (fun _ => ?_)
set_option maxHeartbeats 8000000 in
set_option maxRecDepth 100000 in
theorem cantonref11_Find.calls (k : Nat) (A0 : Option Addr) (c0 : Nat) (l0 : List (S45)) (a1 : ByteArray) (r : Int) (w : World) (hr0 : Kd.C k45 w A0 l0.length l0) (hc0 : l0.length ≤ c0) (h : cantonref11_Find.f k l0 a1 = some r) :
  Calls Try.prog 33 #[.slice A0 l0.length c0, .string a1] w fun e w' => e = .returned (.int .i64 r) ∧ Drawn0 w w' := by
 have HR0 := Aside0.mk hr0
 have HC0 := Aside0.mk hc0
 clear hr0 hc0
 have H : (cantonref11_Find.l0 k l0 a1 0) = some r := h
 clear h
 have H' := Aside0.mk H
 clear H
 go_enter Try.func33, Try.ntmps33
 go_wp2
 go_loopg [5] k (fun kq v5 w' => ∃ (x5_1 : Int), v5 = .int .i64 x5_1 ∧ Aside0 (cantonref11_Find.l0 kq l0 a1 x5_1 = some r) ∧ Aside0 (kq ≤ k) ∧ Drawn0 w w')
 case atStart => exact ⟨(0), (by first | rfl | (simp; done) | (simp [*]; done)), H', ⟨Nat.le_refl _⟩, by repeat (first | exact Drawn0.refl _ | apply Drawn0.step)⟩
 case round =>
  clear H'
  try clear p2
  obtain ⟨x5_1, rfl, HA, HK1, ⟨m1, rfl⟩⟩ := hrel
  cases gk with
  | zero => exact absurd HA.out (by simp [cantonref11_Find.l0])
  | succ k1 =>
   have H := HA.out
   clear HA
   simp only [cantonref11_Find.l0] at H
   by_cases c3 : x5_1 < (l0.length : Int)
   ·rw [if_pos c3] at H
    have c3b0 : decide (x5_1 < (l0.length : Int)) = true := decide_eq_true c3
    clear c3
    by_cases c4 : 0 ≤ x5_1
    ·rw [if_pos c4] at H
     have c4b0 : decide (0 ≤ x5_1) = true := decide_eq_true c4
     clear c4
     by_cases c5 : ((rd_T45 l0 x5_1).f0).toList = a1.toList
     ·rw [if_pos c5] at H
      have c5b0 : (((rd_T45 l0 x5_1).f0).toList == a1.toList) = true := beq_iff_eq.mpr c5
      have c5b1 : (((rd_T45 l0 x5_1).f0).toList != a1.toList) = false := bne_eq_false_iff_eq.mpr c5
      clear c5
      obtain rfl := Option.some.inj H
      have p235 : 0 ≤ (x5_1 : Int) := of_decide_eq_true (by first | (with_reducible assumption) | assumption)
      have q235 : x5_1 < (l0.length : Int) := of_decide_eq_true (by first | (with_reducible assumption) | assumption)
      obtain ⟨ad235, e235, hx235_0, hx235_1, hx235_2⟩ := at_T45 HR0.out x5_1 p235 q235
      cases e235
      replace p235 := eq_true p235
      replace q235 := eq_true q235
      go_wp2
      go_ret
      exact ⟨by first | rfl | (simp; done) | (simp [*]; done), by repeat (first | exact Drawn0.refl _ | apply Drawn0.step)⟩
     ·rw [if_neg c5] at H
      have c5b0 : (((rd_T45 l0 x5_1).f0).toList == a1.toList) = false := beq_eq_false_iff_ne.mpr c5
      have c5b1 : (((rd_T45 l0 x5_1).f0).toList != a1.toList) = true := bne_iff_ne.mpr c5
      have H' := Aside0.mk H
      clear H
      have p235 : 0 ≤ (x5_1 : Int) := of_decide_eq_true (by first | (with_reducible assumption) | assumption)
      have q235 : x5_1 < (l0.length : Int) := of_decide_eq_true (by first | (with_reducible assumption) | assumption)
      obtain ⟨ad235, e235, hx235_0, hx235_1, hx235_2⟩ := at_T45 HR0.out x5_1 p235 q235
      cases e235
      replace p235 := eq_true p235
      replace q235 := eq_true q235
      go_wp2
      go_roundg k1
      case measure => have := HK1.out; omega
      case rel => exact ⟨(wrap64 (x5_1 + 1)), (by first | rfl | (simp; done) | (simp [*]; done)), H', ⟨by have := HK1.out; omega⟩, by repeat (first | exact Drawn0.refl _ | apply Drawn0.step)⟩
    ·rw [if_neg c4] at H
     exact absurd H (by simp)
   ·rw [if_neg c3] at H
    have c3b0 : decide (x5_1 < (l0.length : Int)) = false := decide_eq_false c3
    clear c3
    obtain rfl := Option.some.inj H
    go_wp2
    go_ret
    exact ⟨by first | rfl | (simp; done) | (simp [*]; done), by repeat (first | exact Drawn0.refl _ | apply Drawn0.step)⟩

/-! ### cantonref11_Put: function 34 -/
mutual
def cantonref11_Put.l0 : Nat → List (S45) → List (S45) → Bool → Int → ByteArray → Int → Int → Option ((List (S45)))
 | 0, _, _, _, _, _, _, _ => none
 | k + 1, x0, x5, x6, x7, x237000, x237001, x237002 => if x7 < (x0.length : Int) then (if x6 = true then (cantonref11_Put.j1 k x0 x5 x6 x7 false x237000 x237001 x237002) else (if 0 ≤ x7 then (cantonref11_Put.j1 k x0 x5 x6 x7 (!(Op.bytesLess (((rd_T45 x0 x7).f0).toList) x237000.toList)) x237000 x237001 x237002) else (none))) else (if x6 = true then (some x5) else (if x5.length < 4398046511104 then (some (x5 ++ [(⟨x237000, x237001, x237002⟩ : S45)])) else (none)))
def cantonref11_Put.j1 : Nat → List (S45) → List (S45) → Bool → Int → Bool → ByteArray → Int → Int → Option ((List (S45)))
 | 0, _, _, _, _, _, _, _, _ => none
 | k + 1, x0, x5, x6, x7, x25, x237000, x237001, x237002 => if x25 = true then (if x5.length < 4398046511104 then ((some (x5 ++ [(⟨x237000, x237001, x237002⟩ : S45)] : List (S45))).bind fun y241 => (if 0 ≤ x7 then (if x7 < (x0.length : Int) then (if ((rd_T45 x0 x7).f0).toList = x237000.toList then (cantonref11_Put.l0 k x0 y241 true (wrap64 (x7 + 1)) x237000 x237001 x237002) else (if y241.length < 4398046511104 then (cantonref11_Put.l0 k x0 (y241 ++ [(⟨(rd_T45 x0 x7).f0, (rd_T45 x0 x7).f1, (rd_T45 x0 x7).f2⟩ : S45)]) true (wrap64 (x7 + 1)) x237000 x237001 x237002) else (none))) else (none)) else (none))) else (none)) else (if 0 ≤ x7 then (if x7 < (x0.length : Int) then (if ((rd_T45 x0 x7).f0).toList = x237000.toList then (cantonref11_Put.l0 k x0 x5 x6 (wrap64 (x7 + 1)) x237000 x237001 x237002) else (if x5.length < 4398046511104 then (cantonref11_Put.l0 k x0 (x5 ++ [(⟨(rd_T45 x0 x7).f0, (rd_T45 x0 x7).f1, (rd_T45 x0 x7).f2⟩ : S45)]) x6 (wrap64 (x7 + 1)) x237000 x237001 x237002) else (none))) else (none)) else (none))
end
def cantonref11_Put.f (k : Nat) (l0 : List (S45)) (a1_0 : ByteArray) (a1_1 : Int) (a1_2 : Int) : Option ((List (S45))) := cantonref11_Put.l0 k l0 ([] : List (S45)) false 0 a1_0 a1_1 a1_2
theorem cantonref11_Put.mono_l : ∀ k, (∀ y0 y1 y2 y3 y4 y5 y6, LeO (cantonref11_Put.l0 k y0 y1 y2 y3 y4 y5 y6) (cantonref11_Put.l0 (k + 1) y0 y1 y2 y3 y4 y5 y6)) ∧ (∀ y0 y1 y2 y3 y4 y5 y6 y7, LeO (cantonref11_Put.j1 k y0 y1 y2 y3 y4 y5 y6 y7) (cantonref11_Put.j1 (k + 1) y0 y1 y2 y3 y4 y5 y6 y7))
 | 0 => ⟨fun _ _ _ _ _ _ _ r h => by simp [cantonref11_Put.l0] at h, fun _ _ _ _ _ _ _ _ r h => by simp [cantonref11_Put.j1] at h⟩
 | k + 1 => by
  obtain ⟨ih0, ih1⟩ := cantonref11_Put.mono_l k
  refine ⟨?_, ?_⟩
  ·intro y0 y1 y2 y3 y4 y5 y6
   unfold cantonref11_Put.l0
   repeat' first
   | (with_reducible exact ih0 _ _ _ _ _ _ _)
   | (with_reducible exact ih1 _ _ _ _ _ _ _ _)
   | (with_reducible exact LeO.refl _)
   | (with_reducible exact LeO.none _)
   | (with_reducible refine LeO.ite ?_ ?_)
   | (with_reducible refine LeO.bind ?_ (fun _ => ?_))
   | exact ih0 _ _ _ _ _ _ _
   | exact ih1 _ _ _ _ _ _ _ _
   | exact LeO.none _
   | refine LeO.ite ?_ ?_
   | refine LeO.bind ?_ (fun _ => ?_)
  ·intro y0 y1 y2 y3 y4 y5 y6 y7
   unfold cantonref11_Put.j1
   repeat' first
   | (with_reducible exact ih0 _ _ _ _ _ _ _)
   | (with_reducible exact ih1 _ _ _ _ _ _ _ _)
   | (with_reducible exact LeO.refl _)
   | (with_reducible exact LeO.none _)
   | (with_reducible refine LeO.ite ?_ ?_)
   | (with_reducible refine LeO.bind ?_ (fun _ => ?_))
   | exact ih0 _ _ _ _ _ _ _
   | exact ih1 _ _ _ _ _ _ _ _
   | exact LeO.none _
   | refine LeO.ite ?_ ?_
   | refine LeO.bind ?_ (fun _ => ?_)
theorem cantonref11_Put.mono : ∀ a0 a1 a2 a3 k, LeO (cantonref11_Put.f k a0 a1 a2 a3) (cantonref11_Put.f (k + 1) a0 a1 a2 a3) := by
 intro a0 a1 a2 a3 k
 obtain ⟨ih0, ih1⟩ := cantonref11_Put.mono_l k
 unfold cantonref11_Put.f
 repeat' first
   | (with_reducible exact ih0 _ _ _ _ _ _ _)
   | (with_reducible exact ih1 _ _ _ _ _ _ _ _)
   | (with_reducible exact LeO.refl _)
   | (with_reducible exact LeO.none _)
   | (with_reducible refine LeO.ite ?_ ?_)
   | (with_reducible refine LeO.bind ?_ (fun _ => ?_))
   | exact ih0 _ _ _ _ _ _ _
   | exact ih1 _ _ _ _ _ _ _ _
   | exact LeO.none _
   | refine LeO.ite ?_ ?_
   | refine LeO.bind ?_ (fun _ => ?_)
set_option maxHeartbeats 8000000 in
set_option maxRecDepth 100000 in
theorem cantonref11_Put.calls (k : Nat) (A0 : Option Addr) (c0 : Nat) (l0 : List (S45)) (a1_0 : ByteArray) (a1_1 : Int) (a1_2 : Int) (r : List (S45)) (w : World) (hr0 : Kd.C k45 w A0 l0.length l0) (hc0 : l0.length ≤ c0) (h : cantonref11_Put.f k l0 a1_0 a1_1 a1_2 = some r) :
  Calls Try.prog 34 #[.slice A0 l0.length c0, .agg #[.string a1_0, .int .i64 a1_1, .int .i64 a1_2]] w fun e w' => ∃ v0_ : Value, e = .returned (v0_) ∧ Kd.R k45 45 w' w.heap.size (fun _ => True) v0_ r ∧ Below w.heap.size w w' := by
 have hu45 := Try.underlying45
 have HR0 := Aside0.mk hr0
 have HC0 := Aside0.mk hc0
 clear hr0 hc0
 have HB := Aside0.mk (Below.refl w.heap.size w)
 have H : (cantonref11_Put.l0 k l0 ([] : List (S45)) false 0 a1_0 a1_1 a1_2) = some r := h
 clear h
 have H' := Aside0.mk H
 clear H
 go_enter Try.func34, Try.ntmps34
 go_wp2_with (first | ((with_reducible refine gate_dst (N := 3) rfl ?_); refine box_event ?hg (N := 3) ?hd (cs := #[.string a1_0, .int .i64 a1_1, .int .i64 a1_2]) (t := 45) ?hr ?_; (case hd => rfl); (case hg => rfl); (case hr => first | (go_simp; done) | (go_simp; rfl)); intro gb236 hg w3 hbox hb; have n0_ := Aside0.mk (below_step (kZ HB) hb); have n1_ := Aside0.mk (hbox); have n2_ := Aside0.mk ((by rw [hg]; exact (below_size (kZ HB)) : w.heap.size ≤ gb236)); have n3_ := Aside0.mk ((by rw [hg]; exact (below_size (kZ HB)) : w.heap.size ≤ gb236)); clear HB; have HB := n0_; have BK236 := n1_; have GW236 := n2_; have GE236 := n3_; clear n0_ n1_ n2_ n3_; clear hb hbox hg))
 repeat (go_quiet (fail); try go_wp2_with (first | ((with_reducible refine gate_dst (N := 3) rfl ?_); refine box_event ?hg (N := 3) ?hd (cs := #[.string a1_0, .int .i64 a1_1, .int .i64 a1_2]) (t := 45) ?hr ?_; (case hd => rfl); (case hg => rfl); (case hr => first | (go_simp; done) | (go_simp; rfl)); intro gb236 hg w3 hbox hb; have n0_ := Aside0.mk (below_step (kZ HB) hb); have n1_ := Aside0.mk (hbox); have n2_ := Aside0.mk ((by rw [hg]; exact (below_size (kZ HB)) : w.heap.size ≤ gb236)); have n3_ := Aside0.mk ((by rw [hg]; exact (below_size (kZ HB)) : w.heap.size ≤ gb236)); clear HB; have HB := n0_; have BK236 := n1_; have GW236 := n2_; have GE236 := n3_; clear n0_ n1_ n2_ n3_; clear hb hbox hg)))
 go_loopg [5, 6, 7] k (fun kq v5 v6 v7 w' => ∃ (x5_1 : List (S45)) (x6_1 : Bool) (x7_1 : Int), v6 = .bool x6_1 ∧ v7 = .int .i64 x7_1 ∧ Aside0 (cantonref11_Put.l0 kq l0 x5_1 x6_1 x7_1 a1_0 a1_1 a1_2 = some r) ∧ Aside0 (kq ≤ k) ∧ Aside0 (Kd.R k45 45 w' w.heap.size (fun k_ => k_ ≠ gb236) v5 x5_1) ∧ Aside0 (w'.heap[gb236]? = some (.cells #[.string a1_0, .int .i64 a1_1, .int .i64 a1_2] 45 (0, 0))) ∧ Aside0 (Below w.heap.size w w'))
 case atStart => exact ⟨(([] : List (S45))), (false), (0), (by first | rfl | (simp; done) | (simp [*]; done)), (by first | rfl | (simp; done) | (simp [*]; done)), H', ⟨Nat.le_refl _⟩, ⟨by first | exact Kd.R_nil _ _ _ _ _ | exact Kd.N_nil _ _ _ _ _ | exact Kd.V_nil _ _ _ _ _ | exact Kd.Q_nil _ _ _ _ _ | exact Kd.S_nil _ _ _ _ _⟩, ⟨by (with_reducible repeat (first | refine blk_drewN ?_ _ | refine blk_drew ?_ | refine blk_alloc ?_ _)); exact BK236.out⟩, ⟨kZ HB⟩⟩
 case round =>
  clear H'
  try clear p2
  try clear c3
  obtain ⟨x5_1, x6_1, x7_1, rfl, rfl, HA, HK1, HO_5, BK236, HB⟩ := hrel
  cases gk with
  | zero => exact absurd HA.out (by simp [cantonref11_Put.l0])
  | succ k1 =>
   have H := HA.out
   clear HA
   simp only [cantonref11_Put.l0] at H
   by_cases c4 : x7_1 < (l0.length : Int)
   ·rw [if_pos c4] at H
    have c4b0 : decide (x7_1 < (l0.length : Int)) = true := decide_eq_true c4
    clear c4
    have HC5 := Aside0.mk H
    clear H
    go_upto_region 6 with (fail)
    repeat (go_quiet (fail); go_upto_region 6 with (fail))
    go_cut [25] (fun v25 wc => ∃ (kq : Nat) (x25_4 : Bool), v25 = .bool x25_4 ∧ Aside0 (cantonref11_Put.j1 kq l0 x5_1 x6_1 x7_1 x25_4 a1_0 a1_1 a1_2 = some r) ∧ Aside0 (kq ≤ k1) ∧ Aside0 (Kd.R k45 45 wc w.heap.size (fun k_ => k_ ≠ gb236) u5 x5_1) ∧ Aside0 (wc.heap[gb236]? = some (.cells #[.string a1_0, .int .i64 a1_1, .int .i64 a1_2] 45 (0, 0))) ∧ Aside0 (Below w.heap.size w wc))
    case first =>
     have H := HC5.out
     clear HC5
     by_cases c6 : x6_1 = true
     ·subst c6
      have H1 : (cantonref11_Put.j1 k1 l0 x5_1 true x7_1 false a1_0 a1_1 a1_2) = some r := by rw [if_pos rfl] at H; exact H
      clear H
      have H := H1
      clear H1
      have H' := Aside0.mk H
      clear H
      go_wp2
      repeat (go_quiet (fail); try go_wp2)
      go_meet
      case rel => exact ⟨_, (false), (by first | rfl | (simp; done) | (simp [*]; done)), H', ⟨by have := HK1.out; first | omega | exact Nat.le_refl _⟩, ⟨by (with_reducible repeat (first | apply Kd.R_alloc | apply Kd.R_drewN | apply Kd.R_drew)); exact HO_5.out⟩, ⟨by (with_reducible repeat (first | refine blk_drewN ?_ _ | refine blk_drew ?_ | refine blk_alloc ?_ _)); exact BK236.out⟩, ⟨kZ HB⟩⟩
     ·replace c6 := Bool.eq_false_iff.mpr c6
      subst c6
      have H1 : (if 0 ≤ x7_1 then (cantonref11_Put.j1 k1 l0 x5_1 false x7_1 (!(Op.bytesLess (((rd_T45 l0 x7_1).f0).toList) a1_0.toList)) a1_0 a1_1 a1_2) else (none)) = some r := by rw [if_neg (show ¬ (false = true) by decide)] at H; exact H
      clear H
      have H := H1
      clear H1
      by_cases c7 : 0 ≤ x7_1
      ·rw [if_pos c7] at H
       have c7b0 : decide (0 ≤ x7_1) = true := decide_eq_true c7
       clear c7
       (first | rw [c7b0] | (simp only [i64_w, i32_w]; rw [c7b0]) | skip)
       have H' := Aside0.mk H
       clear H
       have p240 : 0 ≤ (x7_1 : Int) := of_decide_eq_true (by first | (with_reducible assumption) | assumption)
       have q240 : x7_1 < (l0.length : Int) := of_decide_eq_true (by first | (with_reducible assumption) | assumption)
       obtain ⟨ad240, e240, hx240_0, hx240_1, hx240_2⟩ := at_T45 HR0.out x7_1 p240 q240
       cases e240
       replace hx240_0 := (HB.out.cell (World.block_lt_of_cell? w _ hx240_0)).trans hx240_0
       replace hx240_1 := (HB.out.cell (World.block_lt_of_cell? w _ hx240_1)).trans hx240_1
       replace hx240_2 := (HB.out.cell (World.block_lt_of_cell? w _ hx240_2)).trans hx240_2
       replace p240 := eq_true p240
       replace q240 := eq_true q240
       have hcz8_0 : wr.cell? ⟨gb236, 0, none⟩ = some (.string a1_0) := (blk_cell BK236.out 0).trans rfl
       have hcz8_1 : wr.cell? ⟨gb236, 1, none⟩ = some (.int .i64 a1_1) := (blk_cell BK236.out 1).trans rfl
       have hcz8_2 : wr.cell? ⟨gb236, 2, none⟩ = some (.int .i64 a1_2) := (blk_cell BK236.out 2).trans rfl
       have hfz8_0 := blk_frozen BK236.out 0
       have hfz8_1 := blk_frozen BK236.out 1
       have hfz8_2 := blk_frozen BK236.out 2
       go_wp2
       repeat (go_quiet (fail); try go_wp2)
       go_meet
       case rel => exact ⟨_, (!(Op.bytesLess (((rd_T45 l0 x7_1).f0).toList) a1_0.toList)), (by first | rfl | (simp; done) | (simp [*]; done)), H', ⟨by have := HK1.out; first | omega | exact Nat.le_refl _⟩, ⟨by (with_reducible repeat (first | apply Kd.R_alloc | apply Kd.R_drewN | apply Kd.R_drew)); exact HO_5.out⟩, ⟨by (with_reducible repeat (first | refine blk_drewN ?_ _ | refine blk_drew ?_ | refine blk_alloc ?_ _)); exact BK236.out⟩, ⟨kZ HB⟩⟩
      ·rw [if_neg c7] at H
       exact absurd H (by simp)
    case rest =>
     clear HC5
     try clear p2
     try clear q2
     try clear hx2
     try clear c3
     try clear c4
     try clear c4b0
     try clear c6
     try clear c7
     try clear c7b0
     try clear hcz8_0
     try clear hcz8_1
     try clear hcz8_2
     try clear hfz8_0
     try clear hfz8_1
     try clear hfz8_2
     try clear hx240_0
     try clear hx240_1
     try clear hx240_2
     try clear p2
     try clear p240
     try clear q240
     obtain ⟨kq, x25_4, rfl, HA, HJ4, HO_5, BK236, HB⟩ := hcut
     cases kq with
     | zero => exact absurd HA.out (by simp [cantonref11_Put.j1])
     | succ kj4 =>
      have H := HA.out
      clear HA
      simp only [cantonref11_Put.j1] at H
      by_cases c9 : x25_4 = true
      ·subst c9
       have H1 : (if x5_1.length < 4398046511104 then ((some (x5_1 ++ [(⟨a1_0, a1_1, a1_2⟩ : S45)] : List (S45))).bind fun y241 => (if 0 ≤ x7_1 then (if x7_1 < (l0.length : Int) then (if ((rd_T45 l0 x7_1).f0).toList = a1_0.toList then (cantonref11_Put.l0 kj4 l0 y241 true (wrap64 (x7_1 + 1)) a1_0 a1_1 a1_2) else (if y241.length < 4398046511104 then (cantonref11_Put.l0 kj4 l0 (y241 ++ [(⟨(rd_T45 l0 x7_1).f0, (rd_T45 l0 x7_1).f1, (rd_T45 l0 x7_1).f2⟩ : S45)]) true (wrap64 (x7_1 + 1)) a1_0 a1_1 a1_2) else (none))) else (none)) else (none))) else (none)) = some r := by rw [if_pos rfl] at H; exact H
       clear H
       have H := H1
       clear H1
       by_cases c10 : x5_1.length < 4398046511104
       ·rw [if_pos c10] at H
        have LMc10 := Aside0.mk c10
        clear c10
        obtain ⟨y241, hy241⟩ : ∃ y_ : List (S45), y_ = (x5_1 ++ [(⟨a1_0, a1_1, a1_2⟩ : S45)]) := ⟨_, rfl⟩
        replace H : (if 0 ≤ x7_1 then (if x7_1 < (l0.length : Int) then (if ((rd_T45 l0 x7_1).f0).toList = a1_0.toList then (cantonref11_Put.l0 kj4 l0 y241 true (wrap64 (x7_1 + 1)) a1_0 a1_1 a1_2) else (if y241.length < 4398046511104 then (cantonref11_Put.l0 kj4 l0 (y241 ++ [(⟨(rd_T45 l0 x7_1).f0, (rd_T45 l0 x7_1).f1, (rd_T45 l0 x7_1).f2⟩ : S45)]) true (wrap64 (x7_1 + 1)) a1_0 a1_1 a1_2) else (none))) else (none)) else (none)) = some r := by first | (rw [hy241]; with_reducible exact H) | (have H2_ := (Option.bind_some _ _).symm.trans H; rw [hy241]; with_reducible exact H2_) | (have H2_ := (Option.bind_some _ _).symm.trans H; with_reducible exact H2_) | with_reducible exact H | (rw [hy241]; exact H) | exact H
        have Ny241 := Aside0.mk hy241
        clear hy241
        by_cases c11 : 0 ≤ x7_1
        ·rw [if_pos c11] at H
         have c11b0 : decide (0 ≤ x7_1) = true := decide_eq_true c11
         clear c11
         by_cases c12 : x7_1 < (l0.length : Int)
         ·rw [if_pos c12] at H
          have c12b0 : decide (x7_1 < (l0.length : Int)) = true := decide_eq_true c12
          clear c12
          by_cases c13 : ((rd_T45 l0 x7_1).f0).toList = a1_0.toList
          ·rw [if_pos c13] at H
           have c13b0 : (((rd_T45 l0 x7_1).f0).toList == a1_0.toList) = true := beq_iff_eq.mpr c13
           have c13b1 : (((rd_T45 l0 x7_1).f0).toList != a1_0.toList) = false := bne_eq_false_iff_eq.mpr c13
           clear c13
           have H' := Aside0.mk H
           clear H
           have hcz14_0 : wc.cell? ⟨gb236, 0, none⟩ = some (.string a1_0) := (blk_cell BK236.out 0).trans rfl
           have hcz14_1 : wc.cell? ⟨gb236, 1, none⟩ = some (.int .i64 a1_1) := (blk_cell BK236.out 1).trans rfl
           have hcz14_2 : wc.cell? ⟨gb236, 2, none⟩ = some (.int .i64 a1_2) := (blk_cell BK236.out 2).trans rfl
           have hfz14_0 := blk_frozen BK236.out 0
           have hfz14_1 := blk_frozen BK236.out 1
           have hfz14_2 := blk_frozen BK236.out 2
           go_wp2_with (first | ((with_reducible refine gate_builtin (b := .append) (xs := #[.tmp 26, .tmp 28]) rfl ?_); at_builtin; refine Kd.R_append k45 (w0 := w) w.heap.size rfl (.tmp 26) (.tmp 28) 22 45 (.agg #[(.string ⟨#[]⟩), (.int .i64 0), (.int .i64 0)]) 32 rfl Try.underlying22 info45 rfl (by decide) (by omega) u5 x5_1 (⟨a1_0, a1_1, a1_2⟩ : S45) [.string a1_0, .int .i64 a1_1, .int .i64 a1_2] (fun k_ => k_ ≠ gb236) (fun _ => False) rfl rfl ?aP (fun _ hk => hk.elim) ?aF ?aO ?aB ?aS ?aL ?_; (case aP => exact k45_mkM _ _ _ (⟨a1_0, a1_1, a1_2⟩ : S45)); (case aB => exact (kZ HB)); (case aF => exact (fun k_ hk => Kd.freshB (g := gb236) (o := .cells #[.string a1_0, .int .i64 a1_1, .int .i64 a1_2] 45 (0, 0)) (kB BK236) k_ hk)); (case aO => exact (kR HO_5)); (case aS => exact (below_size (kZ HB))); (case aL => have := LMc10.out; omega); intro v242 w15 ho hb hg hat; rw [← Ny241.out] at ho; have n0_ := Aside0.mk (blk_grown (g := gb236) (o := .cells #[.string a1_0, .int .i64 a1_1, .int .i64 a1_2] 45 (0, 0)) (kB BK236) hg (Kd.R_away HO_5.out (fun _ hk => hk))); have n1_ := Aside0.mk (hb); have n2_ := Aside0.mk (ho); clear BK236; clear HB; clear HO_5; have BK236 := n0_; have HB := n1_; have HO243 := n2_; clear n0_ n1_ n2_; clear ho hb hg hat; have p244 : 0 ≤ (x7_1 : Int) := of_decide_eq_true (by first | (with_reducible assumption) | assumption); have q244 : x7_1 < (l0.length : Int) := of_decide_eq_true (by first | (with_reducible assumption) | assumption); obtain ⟨ad244, e244, hx244_0, hx244_1, hx244_2⟩ := at_T45 HR0.out x7_1 p244 q244; cases e244; replace hx244_0 := (HB.out.cell (World.block_lt_of_cell? w _ hx244_0)).trans hx244_0; replace hx244_1 := (HB.out.cell (World.block_lt_of_cell? w _ hx244_1)).trans hx244_1; replace hx244_2 := (HB.out.cell (World.block_lt_of_cell? w _ hx244_2)).trans hx244_2; replace p244 := eq_true p244; replace q244 := eq_true q244; have hcz16_0 : w15.cell? ⟨gb236, 0, none⟩ = some (.string a1_0) := (blk_cell BK236.out 0).trans rfl; have hcz16_1 : w15.cell? ⟨gb236, 1, none⟩ = some (.int .i64 a1_1) := (blk_cell BK236.out 1).trans rfl; have hcz16_2 : w15.cell? ⟨gb236, 2, none⟩ = some (.int .i64 a1_2) := (blk_cell BK236.out 2).trans rfl; have hfz16_0 := blk_frozen BK236.out 0; have hfz16_1 := blk_frozen BK236.out 1; have hfz16_2 := blk_frozen BK236.out 2))
           repeat (go_quiet (fail); try go_wp2_with (first | ((with_reducible refine gate_builtin (b := .append) (xs := #[.tmp 26, .tmp 28]) rfl ?_); at_builtin; refine Kd.R_append k45 (w0 := w) w.heap.size rfl (.tmp 26) (.tmp 28) 22 45 (.agg #[(.string ⟨#[]⟩), (.int .i64 0), (.int .i64 0)]) 32 rfl Try.underlying22 info45 rfl (by decide) (by omega) u5 x5_1 (⟨a1_0, a1_1, a1_2⟩ : S45) [.string a1_0, .int .i64 a1_1, .int .i64 a1_2] (fun k_ => k_ ≠ gb236) (fun _ => False) rfl rfl ?aP (fun _ hk => hk.elim) ?aF ?aO ?aB ?aS ?aL ?_; (case aP => exact k45_mkM _ _ _ (⟨a1_0, a1_1, a1_2⟩ : S45)); (case aB => exact (kZ HB)); (case aF => exact (fun k_ hk => Kd.freshB (g := gb236) (o := .cells #[.string a1_0, .int .i64 a1_1, .int .i64 a1_2] 45 (0, 0)) (kB BK236) k_ hk)); (case aO => exact (kR HO_5)); (case aS => exact (below_size (kZ HB))); (case aL => have := LMc10.out; omega); intro v242 w15 ho hb hg hat; rw [← Ny241.out] at ho; have n0_ := Aside0.mk (blk_grown (g := gb236) (o := .cells #[.string a1_0, .int .i64 a1_1, .int .i64 a1_2] 45 (0, 0)) (kB BK236) hg (Kd.R_away HO_5.out (fun _ hk => hk))); have n1_ := Aside0.mk (hb); have n2_ := Aside0.mk (ho); clear BK236; clear HB; clear HO_5; have BK236 := n0_; have HB := n1_; have HO243 := n2_; clear n0_ n1_ n2_; clear ho hb hg hat; have p244 : 0 ≤ (x7_1 : Int) := of_decide_eq_true (by first | (with_reducible assumption) | assumption); have q244 : x7_1 < (l0.length : Int) := of_decide_eq_true (by first | (with_reducible assumption) | assumption); obtain ⟨ad244, e244, hx244_0, hx244_1, hx244_2⟩ := at_T45 HR0.out x7_1 p244 q244; cases e244; replace hx244_0 := (HB.out.cell (World.block_lt_of_cell? w _ hx244_0)).trans hx244_0; replace hx244_1 := (HB.out.cell (World.block_lt_of_cell? w _ hx244_1)).trans hx244_1; replace hx244_2 := (HB.out.cell (World.block_lt_of_cell? w _ hx244_2)).trans hx244_2; replace p244 := eq_true p244; replace q244 := eq_true q244; have hcz16_0 : w15.cell? ⟨gb236, 0, none⟩ = some (.string a1_0) := (blk_cell BK236.out 0).trans rfl; have hcz16_1 : w15.cell? ⟨gb236, 1, none⟩ = some (.int .i64 a1_1) := (blk_cell BK236.out 1).trans rfl; have hcz16_2 : w15.cell? ⟨gb236, 2, none⟩ = some (.int .i64 a1_2) := (blk_cell BK236.out 2).trans rfl; have hfz16_0 := blk_frozen BK236.out 0; have hfz16_1 := blk_frozen BK236.out 1; have hfz16_2 := blk_frozen BK236.out 2)))
           go_roundg kj4
           case measure => have := HK1.out; have := HJ4.out; omega
           case rel => exact ⟨(y241), (true), (wrap64 (x7_1 + 1)), (by first | rfl | (simp; done) | (simp [*]; done)), (by first | rfl | (simp; done) | (simp [*]; done)), H', ⟨by have := HK1.out; have := HJ4.out; omega⟩, ⟨by (with_reducible repeat (first | apply Kd.R_alloc | apply Kd.R_drewN | apply Kd.R_drew)); exact HO243.out⟩, ⟨by (with_reducible repeat (first | refine blk_drewN ?_ _ | refine blk_drew ?_ | refine blk_alloc ?_ _)); exact BK236.out⟩, ⟨kZ HB⟩⟩
          ·rw [if_neg c13] at H
           have c13b0 : (((rd_T45 l0 x7_1).f0).toList == a1_0.toList) = false := beq_eq_false_iff_ne.mpr c13
           have c13b1 : (((rd_T45 l0 x7_1).f0).toList != a1_0.toList) = true := bne_iff_ne.mpr c13
           by_cases c17 : y241.length < 4398046511104
           ·rw [if_pos c17] at H
            have LMc17 := Aside0.mk c17
            clear c17
            obtain ⟨y246, hy246⟩ : ∃ y_ : List (S45), y_ = (y241 ++ [(⟨(rd_T45 l0 x7_1).f0, (rd_T45 l0 x7_1).f1, (rd_T45 l0 x7_1).f2⟩ : S45)]) := ⟨_, rfl⟩
            replace H : (cantonref11_Put.l0 kj4 l0 y246 true (wrap64 (x7_1 + 1)) a1_0 a1_1 a1_2) = some r := by first | (rw [hy246]; with_reducible exact H) | (have H2_ := (Option.bind_some _ _).symm.trans H; rw [hy246]; with_reducible exact H2_) | (have H2_ := (Option.bind_some _ _).symm.trans H; with_reducible exact H2_) | with_reducible exact H | (rw [hy246]; exact H) | exact H
            have Ny246 := Aside0.mk hy246
            clear hy246
            have H' := Aside0.mk H
            clear H
            have hcz18_0 : wc.cell? ⟨gb236, 0, none⟩ = some (.string a1_0) := (blk_cell BK236.out 0).trans rfl
            have hcz18_1 : wc.cell? ⟨gb236, 1, none⟩ = some (.int .i64 a1_1) := (blk_cell BK236.out 1).trans rfl
            have hcz18_2 : wc.cell? ⟨gb236, 2, none⟩ = some (.int .i64 a1_2) := (blk_cell BK236.out 2).trans rfl
            have hfz18_0 := blk_frozen BK236.out 0
            have hfz18_1 := blk_frozen BK236.out 1
            have hfz18_2 := blk_frozen BK236.out 2
            go_wp2_with (first | ((with_reducible refine gate_builtin (b := .append) (xs := #[.tmp 26, .tmp 28]) rfl ?_); at_builtin; refine Kd.R_append k45 (w0 := w) w.heap.size rfl (.tmp 26) (.tmp 28) 22 45 (.agg #[(.string ⟨#[]⟩), (.int .i64 0), (.int .i64 0)]) 32 rfl Try.underlying22 info45 rfl (by decide) (by omega) u5 x5_1 (⟨a1_0, a1_1, a1_2⟩ : S45) [.string a1_0, .int .i64 a1_1, .int .i64 a1_2] (fun k_ => k_ ≠ gb236) (fun _ => False) rfl rfl ?aP (fun _ hk => hk.elim) ?aF ?aO ?aB ?aS ?aL ?_; (case aP => exact k45_mkM _ _ _ (⟨a1_0, a1_1, a1_2⟩ : S45)); (case aB => exact (kZ HB)); (case aF => exact (fun k_ hk => Kd.freshB (g := gb236) (o := .cells #[.string a1_0, .int .i64 a1_1, .int .i64 a1_2] 45 (0, 0)) (kB BK236) k_ hk)); (case aO => exact (kR HO_5)); (case aS => exact (below_size (kZ HB))); (case aL => have := LMc10.out; omega); intro v242 w19 ho hb hg hat; rw [← Ny241.out] at ho; have n0_ := Aside0.mk (blk_grown (g := gb236) (o := .cells #[.string a1_0, .int .i64 a1_1, .int .i64 a1_2] 45 (0, 0)) (kB BK236) hg (Kd.R_away HO_5.out (fun _ hk => hk))); have n1_ := Aside0.mk (hb); have n2_ := Aside0.mk (ho); clear BK236; clear HB; clear HO_5; have BK236 := n0_; have HB := n1_; have HO243 := n2_; clear n0_ n1_ n2_; clear ho hb hg hat; have p244 : 0 ≤ (x7_1 : Int) := of_decide_eq_true (by first | (with_reducible assumption) | assumption); have q244 : x7_1 < (l0.length : Int) := of_decide_eq_true (by first | (with_reducible assumption) | assumption); obtain ⟨ad244, e244, hx244_0, hx244_1, hx244_2⟩ := at_T45 HR0.out x7_1 p244 q244; cases e244; replace hx244_0 := (HB.out.cell (World.block_lt_of_cell? w _ hx244_0)).trans hx244_0; replace hx244_1 := (HB.out.cell (World.block_lt_of_cell? w _ hx244_1)).trans hx244_1; replace hx244_2 := (HB.out.cell (World.block_lt_of_cell? w _ hx244_2)).trans hx244_2; replace p244 := eq_true p244; replace q244 := eq_true q244; have hcz20_0 : w19.cell? ⟨gb236, 0, none⟩ = some (.string a1_0) := (blk_cell BK236.out 0).trans rfl; have hcz20_1 : w19.cell? ⟨gb236, 1, none⟩ = some (.int .i64 a1_1) := (blk_cell BK236.out 1).trans rfl; have hcz20_2 : w19.cell? ⟨gb236, 2, none⟩ = some (.int .i64 a1_2) := (blk_cell BK236.out 2).trans rfl; have hfz20_0 := blk_frozen BK236.out 0; have hfz20_1 := blk_frozen BK236.out 1; have hfz20_2 := blk_frozen BK236.out 2; have p245 : 0 ≤ (x7_1 : Int) := of_decide_eq_true (by first | (with_reducible assumption) | assumption); have q245 : x7_1 < (l0.length : Int) := of_decide_eq_true (by first | (with_reducible assumption) | assumption); obtain ⟨ad245, e245, hx245_0, hx245_1, hx245_2⟩ := at_T45 HR0.out x7_1 p245 q245; obtain rfl : ad244 = ad245 := (by injection e245); replace hx245_0 := (HB.out.cell (World.block_lt_of_cell? w _ hx245_0)).trans hx245_0; replace hx245_1 := (HB.out.cell (World.block_lt_of_cell? w _ hx245_1)).trans hx245_1; replace hx245_2 := (HB.out.cell (World.block_lt_of_cell? w _ hx245_2)).trans hx245_2; replace p245 := eq_true p245; replace q245 := eq_true q245) | ((with_reducible refine gate_builtin (b := .append) (xs := #[.tmp 38, .tmp 43]) rfl ?_); at_builtin; refine Kd.R_append k45 (w0 := w) w.heap.size rfl (.tmp 38) (.tmp 43) 22 45 (.agg #[(.string ⟨#[]⟩), (.int .i64 0), (.int .i64 0)]) 32 rfl Try.underlying22 info45 rfl (by decide) (by omega) v242 y241 (⟨(rd_T45 l0 x7_1).f0, (rd_T45 l0 x7_1).f1, (rd_T45 l0 x7_1).f2⟩ : S45) [.string ((rd_T45 l0 x7_1).f0), .int .i64 ((rd_T45 l0 x7_1).f1), .int .i64 ((rd_T45 l0 x7_1).f2)] (fun k_ => k_ ≠ gb236) (fun _ => False) rfl rfl ?aP (fun _ hk => hk.elim) ?aF ?aO ?aB ?aS ?aL ?_; (case aP => exact k45_mkM _ _ _ (⟨(rd_T45 l0 x7_1).f0, (rd_T45 l0 x7_1).f1, (rd_T45 l0 x7_1).f2⟩ : S45)); (case aB => exact (kZ HB)); (case aF => exact (fun k_ hk => Kd.freshB (g := gb236) (o := .cells #[.string a1_0, .int .i64 a1_1, .int .i64 a1_2] 45 (0, 0)) (kB BK236) k_ hk)); (case aO => exact (kR HO243)); (case aS => exact (below_size (kZ HB))); (case aL => have := LMc17.out; omega); intro v247 w21 ho hb hg hat; rw [← Ny246.out] at ho; have n0_ := Aside0.mk (blk_grown (g := gb236) (o := .cells #[.string a1_0, .int .i64 a1_1, .int .i64 a1_2] 45 (0, 0)) (kB BK236) hg (Kd.R_away HO243.out (fun _ hk => hk))); have n1_ := Aside0.mk (hb); have n2_ := Aside0.mk (ho); clear BK236; clear HB; clear HO243; have BK236 := n0_; have HB := n1_; have HO248 := n2_; clear n0_ n1_ n2_; clear ho hb hg hat))
            repeat (go_quiet (fail); try go_wp2_with (first | ((with_reducible refine gate_builtin (b := .append) (xs := #[.tmp 26, .tmp 28]) rfl ?_); at_builtin; refine Kd.R_append k45 (w0 := w) w.heap.size rfl (.tmp 26) (.tmp 28) 22 45 (.agg #[(.string ⟨#[]⟩), (.int .i64 0), (.int .i64 0)]) 32 rfl Try.underlying22 info45 rfl (by decide) (by omega) u5 x5_1 (⟨a1_0, a1_1, a1_2⟩ : S45) [.string a1_0, .int .i64 a1_1, .int .i64 a1_2] (fun k_ => k_ ≠ gb236) (fun _ => False) rfl rfl ?aP (fun _ hk => hk.elim) ?aF ?aO ?aB ?aS ?aL ?_; (case aP => exact k45_mkM _ _ _ (⟨a1_0, a1_1, a1_2⟩ : S45)); (case aB => exact (kZ HB)); (case aF => exact (fun k_ hk => Kd.freshB (g := gb236) (o := .cells #[.string a1_0, .int .i64 a1_1, .int .i64 a1_2] 45 (0, 0)) (kB BK236) k_ hk)); (case aO => exact (kR HO_5)); (case aS => exact (below_size (kZ HB))); (case aL => have := LMc10.out; omega); intro v242 w19 ho hb hg hat; rw [← Ny241.out] at ho; have n0_ := Aside0.mk (blk_grown (g := gb236) (o := .cells #[.string a1_0, .int .i64 a1_1, .int .i64 a1_2] 45 (0, 0)) (kB BK236) hg (Kd.R_away HO_5.out (fun _ hk => hk))); have n1_ := Aside0.mk (hb); have n2_ := Aside0.mk (ho); clear BK236; clear HB; clear HO_5; have BK236 := n0_; have HB := n1_; have HO243 := n2_; clear n0_ n1_ n2_; clear ho hb hg hat; have p244 : 0 ≤ (x7_1 : Int) := of_decide_eq_true (by first | (with_reducible assumption) | assumption); have q244 : x7_1 < (l0.length : Int) := of_decide_eq_true (by first | (with_reducible assumption) | assumption); obtain ⟨ad244, e244, hx244_0, hx244_1, hx244_2⟩ := at_T45 HR0.out x7_1 p244 q244; cases e244; replace hx244_0 := (HB.out.cell (World.block_lt_of_cell? w _ hx244_0)).trans hx244_0; replace hx244_1 := (HB.out.cell (World.block_lt_of_cell? w _ hx244_1)).trans hx244_1; replace hx244_2 := (HB.out.cell (World.block_lt_of_cell? w _ hx244_2)).trans hx244_2; replace p244 := eq_true p244; replace q244 := eq_true q244; have hcz20_0 : w19.cell? ⟨gb236, 0, none⟩ = some (.string a1_0) := (blk_cell BK236.out 0).trans rfl; have hcz20_1 : w19.cell? ⟨gb236, 1, none⟩ = some (.int .i64 a1_1) := (blk_cell BK236.out 1).trans rfl; have hcz20_2 : w19.cell? ⟨gb236, 2, none⟩ = some (.int .i64 a1_2) := (blk_cell BK236.out 2).trans rfl; have hfz20_0 := blk_frozen BK236.out 0; have hfz20_1 := blk_frozen BK236.out 1; have hfz20_2 := blk_frozen BK236.out 2; have p245 : 0 ≤ (x7_1 : Int) := of_decide_eq_true (by first | (with_reducible assumption) | assumption); have q245 : x7_1 < (l0.length : Int) := of_decide_eq_true (by first | (with_reducible assumption) | assumption); obtain ⟨ad245, e245, hx245_0, hx245_1, hx245_2⟩ := at_T45 HR0.out x7_1 p245 q245; obtain rfl : ad244 = ad245 := (by injection e245); replace hx245_0 := (HB.out.cell (World.block_lt_of_cell? w _ hx245_0)).trans hx245_0; replace hx245_1 := (HB.out.cell (World.block_lt_of_cell? w _ hx245_1)).trans hx245_1; replace hx245_2 := (HB.out.cell (World.block_lt_of_cell? w _ hx245_2)).trans hx245_2; replace p245 := eq_true p245; replace q245 := eq_true q245) | ((with_reducible refine gate_builtin (b := .append) (xs := #[.tmp 38, .tmp 43]) rfl ?_); at_builtin; refine Kd.R_append k45 (w0 := w) w.heap.size rfl (.tmp 38) (.tmp 43) 22 45 (.agg #[(.string ⟨#[]⟩), (.int .i64 0), (.int .i64 0)]) 32 rfl Try.underlying22 info45 rfl (by decide) (by omega) v242 y241 (⟨(rd_T45 l0 x7_1).f0, (rd_T45 l0 x7_1).f1, (rd_T45 l0 x7_1).f2⟩ : S45) [.string ((rd_T45 l0 x7_1).f0), .int .i64 ((rd_T45 l0 x7_1).f1), .int .i64 ((rd_T45 l0 x7_1).f2)] (fun k_ => k_ ≠ gb236) (fun _ => False) rfl rfl ?aP (fun _ hk => hk.elim) ?aF ?aO ?aB ?aS ?aL ?_; (case aP => exact k45_mkM _ _ _ (⟨(rd_T45 l0 x7_1).f0, (rd_T45 l0 x7_1).f1, (rd_T45 l0 x7_1).f2⟩ : S45)); (case aB => exact (kZ HB)); (case aF => exact (fun k_ hk => Kd.freshB (g := gb236) (o := .cells #[.string a1_0, .int .i64 a1_1, .int .i64 a1_2] 45 (0, 0)) (kB BK236) k_ hk)); (case aO => exact (kR HO243)); (case aS => exact (below_size (kZ HB))); (case aL => have := LMc17.out; omega); intro v247 w21 ho hb hg hat; rw [← Ny246.out] at ho; have n0_ := Aside0.mk (blk_grown (g := gb236) (o := .cells #[.string a1_0, .int .i64 a1_1, .int .i64 a1_2] 45 (0, 0)) (kB BK236) hg (Kd.R_away HO243.out (fun _ hk => hk))); have n1_ := Aside0.mk (hb); have n2_ := Aside0.mk (ho); clear BK236; clear HB; clear HO243; have BK236 := n0_; have HB := n1_; have HO248 := n2_; clear n0_ n1_ n2_; clear ho hb hg hat)))
            go_roundg kj4
            case measure => have := HK1.out; have := HJ4.out; omega
            case rel => exact ⟨(y246), (true), (wrap64 (x7_1 + 1)), (by first | rfl | (simp; done) | (simp [*]; done)), (by first | rfl | (simp; done) | (simp [*]; done)), H', ⟨by have := HK1.out; have := HJ4.out; omega⟩, ⟨by (with_reducible repeat (first | apply Kd.R_alloc | apply Kd.R_drewN | apply Kd.R_drew)); exact HO248.out⟩, ⟨by (with_reducible repeat (first | refine blk_drewN ?_ _ | refine blk_drew ?_ | refine blk_alloc ?_ _)); exact BK236.out⟩, ⟨kZ HB⟩⟩
           ·rw [if_neg c17] at H
            exact absurd H (by simp)
         ·rw [if_neg c12] at H
          exact absurd H (by simp)
        ·rw [if_neg c11] at H
         exact absurd H (by simp)
       ·rw [if_neg c10] at H
        exact absurd H (by simp)
      ·replace c9 := Bool.eq_false_iff.mpr c9
       subst c9
       have H1 : (if 0 ≤ x7_1 then (if x7_1 < (l0.length : Int) then (if ((rd_T45 l0 x7_1).f0).toList = a1_0.toList then (cantonref11_Put.l0 kj4 l0 x5_1 x6_1 (wrap64 (x7_1 + 1)) a1_0 a1_1 a1_2) else (if x5_1.length < 4398046511104 then (cantonref11_Put.l0 kj4 l0 (x5_1 ++ [(⟨(rd_T45 l0 x7_1).f0, (rd_T45 l0 x7_1).f1, (rd_T45 l0 x7_1).f2⟩ : S45)]) x6_1 (wrap64 (x7_1 + 1)) a1_0 a1_1 a1_2) else (none))) else (none)) else (none)) = some r := by rw [if_neg (show ¬ (false = true) by decide)] at H; exact H
       clear H
       have H := H1
       clear H1
       by_cases c22 : 0 ≤ x7_1
       ·rw [if_pos c22] at H
        have c22b0 : decide (0 ≤ x7_1) = true := decide_eq_true c22
        clear c22
        by_cases c23 : x7_1 < (l0.length : Int)
        ·rw [if_pos c23] at H
         have c23b0 : decide (x7_1 < (l0.length : Int)) = true := decide_eq_true c23
         clear c23
         by_cases c24 : ((rd_T45 l0 x7_1).f0).toList = a1_0.toList
         ·rw [if_pos c24] at H
          have c24b0 : (((rd_T45 l0 x7_1).f0).toList == a1_0.toList) = true := beq_iff_eq.mpr c24
          have c24b1 : (((rd_T45 l0 x7_1).f0).toList != a1_0.toList) = false := bne_eq_false_iff_eq.mpr c24
          clear c24
          have H' := Aside0.mk H
          clear H
          have p249 : 0 ≤ (x7_1 : Int) := of_decide_eq_true (by first | (with_reducible assumption) | assumption)
          have q249 : x7_1 < (l0.length : Int) := of_decide_eq_true (by first | (with_reducible assumption) | assumption)
          obtain ⟨ad249, e249, hx249_0, hx249_1, hx249_2⟩ := at_T45 HR0.out x7_1 p249 q249
          cases e249
          replace hx249_0 := (HB.out.cell (World.block_lt_of_cell? w _ hx249_0)).trans hx249_0
          replace hx249_1 := (HB.out.cell (World.block_lt_of_cell? w _ hx249_1)).trans hx249_1
          replace hx249_2 := (HB.out.cell (World.block_lt_of_cell? w _ hx249_2)).trans hx249_2
          replace p249 := eq_true p249
          replace q249 := eq_true q249
          have hcz25_0 : wc.cell? ⟨gb236, 0, none⟩ = some (.string a1_0) := (blk_cell BK236.out 0).trans rfl
          have hcz25_1 : wc.cell? ⟨gb236, 1, none⟩ = some (.int .i64 a1_1) := (blk_cell BK236.out 1).trans rfl
          have hcz25_2 : wc.cell? ⟨gb236, 2, none⟩ = some (.int .i64 a1_2) := (blk_cell BK236.out 2).trans rfl
          have hfz25_0 := blk_frozen BK236.out 0
          have hfz25_1 := blk_frozen BK236.out 1
          have hfz25_2 := blk_frozen BK236.out 2
          go_wp2
          repeat (go_quiet (fail); try go_wp2)
          go_roundg kj4
          case measure => have := HK1.out; have := HJ4.out; omega
          case rel => exact ⟨(x5_1), (x6_1), (wrap64 (x7_1 + 1)), (by first | rfl | (simp; done) | (simp [*]; done)), (by first | rfl | (simp; done) | (simp [*]; done)), H', ⟨by have := HK1.out; have := HJ4.out; omega⟩, ⟨by (with_reducible repeat (first | apply Kd.R_alloc | apply Kd.R_drewN | apply Kd.R_drew)); exact HO_5.out⟩, ⟨by (with_reducible repeat (first | refine blk_drewN ?_ _ | refine blk_drew ?_ | refine blk_alloc ?_ _)); exact BK236.out⟩, ⟨kZ HB⟩⟩
         ·rw [if_neg c24] at H
          have c24b0 : (((rd_T45 l0 x7_1).f0).toList == a1_0.toList) = false := beq_eq_false_iff_ne.mpr c24
          have c24b1 : (((rd_T45 l0 x7_1).f0).toList != a1_0.toList) = true := bne_iff_ne.mpr c24
          by_cases c26 : x5_1.length < 4398046511104
          ·rw [if_pos c26] at H
           have LMc26 := Aside0.mk c26
           clear c26
           obtain ⟨y251, hy251⟩ : ∃ y_ : List (S45), y_ = (x5_1 ++ [(⟨(rd_T45 l0 x7_1).f0, (rd_T45 l0 x7_1).f1, (rd_T45 l0 x7_1).f2⟩ : S45)]) := ⟨_, rfl⟩
           replace H : (cantonref11_Put.l0 kj4 l0 y251 x6_1 (wrap64 (x7_1 + 1)) a1_0 a1_1 a1_2) = some r := by first | (rw [hy251]; with_reducible exact H) | (have H2_ := (Option.bind_some _ _).symm.trans H; rw [hy251]; with_reducible exact H2_) | (have H2_ := (Option.bind_some _ _).symm.trans H; with_reducible exact H2_) | with_reducible exact H | (rw [hy251]; exact H) | exact H
           have Ny251 := Aside0.mk hy251
           clear hy251
           have H' := Aside0.mk H
           clear H
           have p249 : 0 ≤ (x7_1 : Int) := of_decide_eq_true (by first | (with_reducible assumption) | assumption)
           have q249 : x7_1 < (l0.length : Int) := of_decide_eq_true (by first | (with_reducible assumption) | assumption)
           obtain ⟨ad249, e249, hx249_0, hx249_1, hx249_2⟩ := at_T45 HR0.out x7_1 p249 q249
           cases e249
           replace hx249_0 := (HB.out.cell (World.block_lt_of_cell? w _ hx249_0)).trans hx249_0
           replace hx249_1 := (HB.out.cell (World.block_lt_of_cell? w _ hx249_1)).trans hx249_1
           replace hx249_2 := (HB.out.cell (World.block_lt_of_cell? w _ hx249_2)).trans hx249_2
           replace p249 := eq_true p249
           replace q249 := eq_true q249
           have hcz27_0 : wc.cell? ⟨gb236, 0, none⟩ = some (.string a1_0) := (blk_cell BK236.out 0).trans rfl
           have hcz27_1 : wc.cell? ⟨gb236, 1, none⟩ = some (.int .i64 a1_1) := (blk_cell BK236.out 1).trans rfl
           have hcz27_2 : wc.cell? ⟨gb236, 2, none⟩ = some (.int .i64 a1_2) := (blk_cell BK236.out 2).trans rfl
           have hfz27_0 := blk_frozen BK236.out 0
           have hfz27_1 := blk_frozen BK236.out 1
           have hfz27_2 := blk_frozen BK236.out 2
           have p250 : 0 ≤ (x7_1 : Int) := of_decide_eq_true (by first | (with_reducible assumption) | assumption)
           have q250 : x7_1 < (l0.length : Int) := of_decide_eq_true (by first | (with_reducible assumption) | assumption)
           obtain ⟨ad250, e250, hx250_0, hx250_1, hx250_2⟩ := at_T45 HR0.out x7_1 p250 q250
           obtain rfl : ad249 = ad250 := (by injection e250)
           replace hx250_0 := (HB.out.cell (World.block_lt_of_cell? w _ hx250_0)).trans hx250_0
           replace hx250_1 := (HB.out.cell (World.block_lt_of_cell? w _ hx250_1)).trans hx250_1
           replace hx250_2 := (HB.out.cell (World.block_lt_of_cell? w _ hx250_2)).trans hx250_2
           replace p250 := eq_true p250
           replace q250 := eq_true q250
           go_wp2_with (first | ((with_reducible refine gate_builtin (b := .append) (xs := #[.tmp 38, .tmp 43]) rfl ?_); at_builtin; refine Kd.R_append k45 (w0 := w) w.heap.size rfl (.tmp 38) (.tmp 43) 22 45 (.agg #[(.string ⟨#[]⟩), (.int .i64 0), (.int .i64 0)]) 32 rfl Try.underlying22 info45 rfl (by decide) (by omega) u5 x5_1 (⟨(rd_T45 l0 x7_1).f0, (rd_T45 l0 x7_1).f1, (rd_T45 l0 x7_1).f2⟩ : S45) [.string ((rd_T45 l0 x7_1).f0), .int .i64 ((rd_T45 l0 x7_1).f1), .int .i64 ((rd_T45 l0 x7_1).f2)] (fun k_ => k_ ≠ gb236) (fun _ => False) rfl rfl ?aP (fun _ hk => hk.elim) ?aF ?aO ?aB ?aS ?aL ?_; (case aP => exact k45_mkM _ _ _ (⟨(rd_T45 l0 x7_1).f0, (rd_T45 l0 x7_1).f1, (rd_T45 l0 x7_1).f2⟩ : S45)); (case aB => exact (kZ HB)); (case aF => exact (fun k_ hk => Kd.freshB (g := gb236) (o := .cells #[.string a1_0, .int .i64 a1_1, .int .i64 a1_2] 45 (0, 0)) (kB BK236) k_ hk)); (case aO => exact (kR HO_5)); (case aS => exact (below_size (kZ HB))); (case aL => have := LMc26.out; omega); intro v252 w28 ho hb hg hat; rw [← Ny251.out] at ho; have n0_ := Aside0.mk (blk_grown (g := gb236) (o := .cells #[.string a1_0, .int .i64 a1_1, .int .i64 a1_2] 45 (0, 0)) (kB BK236) hg (Kd.R_away HO_5.out (fun _ hk => hk))); have n1_ := Aside0.mk (hb); have n2_ := Aside0.mk (ho); clear BK236; clear HB; clear HO_5; have BK236 := n0_; have HB := n1_; have HO253 := n2_; clear n0_ n1_ n2_; clear ho hb hg hat))
           repeat (go_quiet (fail); try go_wp2_with (first | ((with_reducible refine gate_builtin (b := .append) (xs := #[.tmp 38, .tmp 43]) rfl ?_); at_builtin; refine Kd.R_append k45 (w0 := w) w.heap.size rfl (.tmp 38) (.tmp 43) 22 45 (.agg #[(.string ⟨#[]⟩), (.int .i64 0), (.int .i64 0)]) 32 rfl Try.underlying22 info45 rfl (by decide) (by omega) u5 x5_1 (⟨(rd_T45 l0 x7_1).f0, (rd_T45 l0 x7_1).f1, (rd_T45 l0 x7_1).f2⟩ : S45) [.string ((rd_T45 l0 x7_1).f0), .int .i64 ((rd_T45 l0 x7_1).f1), .int .i64 ((rd_T45 l0 x7_1).f2)] (fun k_ => k_ ≠ gb236) (fun _ => False) rfl rfl ?aP (fun _ hk => hk.elim) ?aF ?aO ?aB ?aS ?aL ?_; (case aP => exact k45_mkM _ _ _ (⟨(rd_T45 l0 x7_1).f0, (rd_T45 l0 x7_1).f1, (rd_T45 l0 x7_1).f2⟩ : S45)); (case aB => exact (kZ HB)); (case aF => exact (fun k_ hk => Kd.freshB (g := gb236) (o := .cells #[.string a1_0, .int .i64 a1_1, .int .i64 a1_2] 45 (0, 0)) (kB BK236) k_ hk)); (case aO => exact (kR HO_5)); (case aS => exact (below_size (kZ HB))); (case aL => have := LMc26.out; omega); intro v252 w28 ho hb hg hat; rw [← Ny251.out] at ho; have n0_ := Aside0.mk (blk_grown (g := gb236) (o := .cells #[.string a1_0, .int .i64 a1_1, .int .i64 a1_2] 45 (0, 0)) (kB BK236) hg (Kd.R_away HO_5.out (fun _ hk => hk))); have n1_ := Aside0.mk (hb); have n2_ := Aside0.mk (ho); clear BK236; clear HB; clear HO_5; have BK236 := n0_; have HB := n1_; have HO253 := n2_; clear n0_ n1_ n2_; clear ho hb hg hat)))
           go_roundg kj4
           case measure => have := HK1.out; have := HJ4.out; omega
           case rel => exact ⟨(y251), (x6_1), (wrap64 (x7_1 + 1)), (by first | rfl | (simp; done) | (simp [*]; done)), (by first | rfl | (simp; done) | (simp [*]; done)), H', ⟨by have := HK1.out; have := HJ4.out; omega⟩, ⟨by (with_reducible repeat (first | apply Kd.R_alloc | apply Kd.R_drewN | apply Kd.R_drew)); exact HO253.out⟩, ⟨by (with_reducible repeat (first | refine blk_drewN ?_ _ | refine blk_drew ?_ | refine blk_alloc ?_ _)); exact BK236.out⟩, ⟨kZ HB⟩⟩
          ·rw [if_neg c26] at H
           exact absurd H (by simp)
        ·rw [if_neg c23] at H
         exact absurd H (by simp)
       ·rw [if_neg c22] at H
        exact absurd H (by simp)
   ·rw [if_neg c4] at H
    have c4b0 : decide (x7_1 < (l0.length : Int)) = false := decide_eq_false c4
    clear c4
    by_cases c29 : x6_1 = true
    ·subst c29
     have H1 : (some x5_1) = some r := by rw [if_pos rfl] at H; exact H
     clear H
     have H := H1
     clear H1
     obtain rfl := Option.some.inj H
     go_wp2
     repeat (go_quiet (fail); try go_wp2)
     go_ret
     exact ⟨_, by first | rfl | (simp [errW_none, errW_some] <;> rfl) | (simp [*, errW_none, errW_some] <;> rfl), by (with_reducible repeat (first | apply Kd.R_alloc | apply Kd.R_drewN | apply Kd.R_drew)); exact Kd.R_mono HO_5.out (fun _ hk => trivial), kZ HB⟩
    ·replace c29 := Bool.eq_false_iff.mpr c29
     subst c29
     have H1 : (if x5_1.length < 4398046511104 then (some (x5_1 ++ [(⟨a1_0, a1_1, a1_2⟩ : S45)])) else (none)) = some r := by rw [if_neg (show ¬ (false = true) by decide)] at H; exact H
     clear H
     have H := H1
     clear H1
     by_cases c30 : x5_1.length < 4398046511104
     ·rw [if_pos c30] at H
      have LMc30 := Aside0.mk c30
      clear c30
      obtain ⟨y237, hy237⟩ : ∃ y_ : List (S45), y_ = (x5_1 ++ [(⟨a1_0, a1_1, a1_2⟩ : S45)]) := ⟨_, rfl⟩
      replace H : (some y237) = some r := by first | (rw [hy237]; with_reducible exact H) | (have H2_ := (Option.bind_some _ _).symm.trans H; rw [hy237]; with_reducible exact H2_) | (have H2_ := (Option.bind_some _ _).symm.trans H; with_reducible exact H2_) | with_reducible exact H | (rw [hy237]; exact H) | exact H
      have Ny237 := Aside0.mk hy237
      clear hy237
      obtain rfl := Option.some.inj H
      have hcz31_0 : wr.cell? ⟨gb236, 0, none⟩ = some (.string a1_0) := (blk_cell BK236.out 0).trans rfl
      have hcz31_1 : wr.cell? ⟨gb236, 1, none⟩ = some (.int .i64 a1_1) := (blk_cell BK236.out 1).trans rfl
      have hcz31_2 : wr.cell? ⟨gb236, 2, none⟩ = some (.int .i64 a1_2) := (blk_cell BK236.out 2).trans rfl
      have hfz31_0 := blk_frozen BK236.out 0
      have hfz31_1 := blk_frozen BK236.out 1
      have hfz31_2 := blk_frozen BK236.out 2
      go_wp2_with (first | ((with_reducible refine gate_builtin (b := .append) (xs := #[.tmp 47, .tmp 49]) rfl ?_); at_builtin; refine Kd.R_append k45 (w0 := w) w.heap.size rfl (.tmp 47) (.tmp 49) 22 45 (.agg #[(.string ⟨#[]⟩), (.int .i64 0), (.int .i64 0)]) 32 rfl Try.underlying22 info45 rfl (by decide) (by omega) u5 x5_1 (⟨a1_0, a1_1, a1_2⟩ : S45) [.string a1_0, .int .i64 a1_1, .int .i64 a1_2] (fun k_ => k_ ≠ gb236) (fun _ => False) rfl rfl ?aP (fun _ hk => hk.elim) ?aF ?aO ?aB ?aS ?aL ?_; (case aP => exact k45_mkM _ _ _ (⟨a1_0, a1_1, a1_2⟩ : S45)); (case aB => exact (kZ HB)); (case aF => exact (fun k_ hk => Kd.freshB (g := gb236) (o := .cells #[.string a1_0, .int .i64 a1_1, .int .i64 a1_2] 45 (0, 0)) (kB BK236) k_ hk)); (case aO => exact (kR HO_5)); (case aS => exact (below_size (kZ HB))); (case aL => have := LMc30.out; omega); intro v238 w32 ho hb hg hat; rw [← Ny237.out] at ho; have n0_ := Aside0.mk (blk_grown (g := gb236) (o := .cells #[.string a1_0, .int .i64 a1_1, .int .i64 a1_2] 45 (0, 0)) (kB BK236) hg (Kd.R_away HO_5.out (fun _ hk => hk))); have n1_ := Aside0.mk (hb); have n2_ := Aside0.mk (ho); clear BK236; clear HB; clear HO_5; have BK236 := n0_; have HB := n1_; have HO239 := n2_; clear n0_ n1_ n2_; clear ho hb hg hat))
      repeat (go_quiet (fail); try go_wp2_with (first | ((with_reducible refine gate_builtin (b := .append) (xs := #[.tmp 47, .tmp 49]) rfl ?_); at_builtin; refine Kd.R_append k45 (w0 := w) w.heap.size rfl (.tmp 47) (.tmp 49) 22 45 (.agg #[(.string ⟨#[]⟩), (.int .i64 0), (.int .i64 0)]) 32 rfl Try.underlying22 info45 rfl (by decide) (by omega) u5 x5_1 (⟨a1_0, a1_1, a1_2⟩ : S45) [.string a1_0, .int .i64 a1_1, .int .i64 a1_2] (fun k_ => k_ ≠ gb236) (fun _ => False) rfl rfl ?aP (fun _ hk => hk.elim) ?aF ?aO ?aB ?aS ?aL ?_; (case aP => exact k45_mkM _ _ _ (⟨a1_0, a1_1, a1_2⟩ : S45)); (case aB => exact (kZ HB)); (case aF => exact (fun k_ hk => Kd.freshB (g := gb236) (o := .cells #[.string a1_0, .int .i64 a1_1, .int .i64 a1_2] 45 (0, 0)) (kB BK236) k_ hk)); (case aO => exact (kR HO_5)); (case aS => exact (below_size (kZ HB))); (case aL => have := LMc30.out; omega); intro v238 w32 ho hb hg hat; rw [← Ny237.out] at ho; have n0_ := Aside0.mk (blk_grown (g := gb236) (o := .cells #[.string a1_0, .int .i64 a1_1, .int .i64 a1_2] 45 (0, 0)) (kB BK236) hg (Kd.R_away HO_5.out (fun _ hk => hk))); have n1_ := Aside0.mk (hb); have n2_ := Aside0.mk (ho); clear BK236; clear HB; clear HO_5; have BK236 := n0_; have HB := n1_; have HO239 := n2_; clear n0_ n1_ n2_; clear ho hb hg hat)))
      go_ret
      exact ⟨_, by first | rfl | (simp [errW_none, errW_some] <;> rfl) | (simp [*, errW_none, errW_some] <;> rfl), by (with_reducible repeat (first | apply Kd.R_alloc | apply Kd.R_drewN | apply Kd.R_drew)); exact Kd.R_mono HO239.out (fun _ hk => trivial), kZ HB⟩
     ·rw [if_neg c30] at H
      exact absurd H (by simp)

/-! ### cantonref11_Freeze: function 12 -/
def cantonref11_Freeze.f (k : Nat) (l0 : List (S45)) (a1 : ByteArray) : Option ((List (S45)) × Bool) := (cantonref11_Of.f k l0 a1).bind fun t254 => (if t254 < 0 then (some (([] : List (S45)), false)) else (if 0 ≤ t254 then (if t254 < (l0.length : Int) then (if ((rd_T45 l0 t254).f2) = 1 then ((cantonref11_Find.f k l0 a1).bind fun t256 => (if t256 < 0 then (if (l0.length : Int) ≥ 32 then (some (([] : List (S45)), false)) else ((cantonref11_Put.f k l0 a1 ((rd_T45 l0 t254).f1) 2).bind fun t258 => (some (t258, true)))) else ((cantonref11_Put.f k l0 a1 ((rd_T45 l0 t254).f1) 2).bind fun t262 => (some (t262, true))))) else (some (([] : List (S45)), false))) else (none)) else (none)))
theorem cantonref11_Freeze.mono : ∀ a0 a1 k, LeO (cantonref11_Freeze.f k a0 a1) (cantonref11_Freeze.f (k + 1) a0 a1) := by
 intro a0 a1 k
 unfold cantonref11_Freeze.f
 repeat' first
   | (with_reducible exact cantonref11_Find.mono _ _ _)
   | (with_reducible exact cantonref11_Of.mono _ _ _)
   | (with_reducible exact cantonref11_Put.mono _ _ _ _ _)
   | (with_reducible exact LeO.refl _)
   | (with_reducible exact LeO.none _)
   | (with_reducible refine LeO.ite ?_ ?_)
   | (with_reducible refine LeO.bind ?_ (fun _ => ?_))
   | exact cantonref11_Find.mono _ _ _
   | exact cantonref11_Of.mono _ _ _
   | exact cantonref11_Put.mono _ _ _ _ _
   | exact LeO.none _
   | refine LeO.ite ?_ ?_
   | refine LeO.bind ?_ (fun _ => ?_)
set_option maxHeartbeats 8000000 in
set_option maxRecDepth 100000 in
theorem cantonref11_Freeze.calls (k : Nat) (A0 : Option Addr) (c0 : Nat) (l0 : List (S45)) (a1 : ByteArray) (r1 : List (S45)) (r2 : Bool) (w : World) (hr0 : Kd.C k45 w A0 l0.length l0) (hc0 : l0.length ≤ c0) (h : cantonref11_Freeze.f k l0 a1 = some (r1, r2)) :
  Calls Try.prog 12 #[.slice A0 l0.length c0, .string a1] w fun e w' => ∃ v0_ : Value, e = .returned (.tuple #[v0_, .bool r2]) ∧ Kd.R k45 45 w' w.heap.size (fun _ => True) v0_ r1 ∧ Below w.heap.size w w' := by
 have hu45 := Try.underlying45
 have HR0 := Aside0.mk hr0
 have HC0 := Aside0.mk hc0
 clear hr0 hc0
 have HB := Aside0.mk (Below.refl w.heap.size w)
 have H : ((cantonref11_Of.f k l0 a1).bind fun t254 => (if t254 < 0 then (some (([] : List (S45)), false)) else (if 0 ≤ t254 then (if t254 < (l0.length : Int) then (if ((rd_T45 l0 t254).f2) = 1 then ((cantonref11_Find.f k l0 a1).bind fun t256 => (if t256 < 0 then (if (l0.length : Int) ≥ 32 then (some (([] : List (S45)), false)) else ((cantonref11_Put.f k l0 a1 ((rd_T45 l0 t254).f1) 2).bind fun t258 => (some (t258, true)))) else ((cantonref11_Put.f k l0 a1 ((rd_T45 l0 t254).f1) 2).bind fun t262 => (some (t262, true))))) else (some (([] : List (S45)), false))) else (none)) else (none)))) = some (r1, r2) := h
 clear h
 replace H := Option.bind_eq_some_iff.mp H
 obtain ⟨t254, A30, H⟩ := H
 replace H : (if t254 < 0 then (some (([] : List (S45)), false)) else (if 0 ≤ t254 then (if t254 < (l0.length : Int) then (if ((rd_T45 l0 t254).f2) = 1 then ((cantonref11_Find.f k l0 a1).bind fun t256 => (if t256 < 0 then (if (l0.length : Int) ≥ 32 then (some (([] : List (S45)), false)) else ((cantonref11_Put.f k l0 a1 ((rd_T45 l0 t254).f1) 2).bind fun t258 => (some (t258, true)))) else ((cantonref11_Put.f k l0 a1 ((rd_T45 l0 t254).f1) 2).bind fun t262 => (some (t262, true))))) else (some (([] : List (S45)), false))) else (none)) else (none))) = some (r1, r2) := H
 have A3 := Aside0.mk A30
 clear A30
 by_cases c4 : t254 < 0
 ·rw [if_pos c4] at H
  have c4b0 : decide (t254 < 0) = true := decide_eq_true c4
  clear c4
  simp only [Option.some.injEq, Prod.mk.injEq] at H
  obtain ⟨rfl, rfl⟩ := H
  go_enter Try.func12, Try.ntmps12
  go_wp2_with (first | ((with_reducible refine gate_callee (f := 20) rfl ?_); refine gL (some 9) Try.func20 #[.slice A0 l0.length c0, .string a1] rfl rfl ?_; (with_reducible refine (cantonref11_Of.calls k _ _ l0 a1 t254 _ ?side1 ?side2 A3.out).mono ?_); (case side1 => exact kC (HR0.out)); (case side2 => exact HC0.out); rintro e w5 ⟨rfl, hb⟩; refine ⟨_, rfl, ?_⟩; have n0_ := Aside0.mk (below_step (kZ HB) hb); clear HB; have HB := n0_; clear n0_; (try clear hb); (try clear hb2); (try clear hk); (try clear hi)))
  go_ret2
  exact ⟨_, by first | rfl | (simp [errW_none, errW_some] <;> rfl) | (simp [*, errW_none, errW_some] <;> rfl), by first | exact Kd.R_nil _ _ _ _ _ | exact Kd.N_nil _ _ _ _ _ | exact Kd.V_nil _ _ _ _ _ | exact Kd.Q_nil _ _ _ _ _ | exact Kd.S_nil _ _ _ _ _, kZ HB⟩
 ·rw [if_neg c4] at H
  have c4b0 : decide (t254 < 0) = false := decide_eq_false c4
  clear c4
  by_cases c6 : 0 ≤ t254
  ·rw [if_pos c6] at H
   have c6b0 : decide (0 ≤ t254) = true := decide_eq_true c6
   clear c6
   by_cases c7 : t254 < (l0.length : Int)
   ·rw [if_pos c7] at H
    have c7b0 : decide (t254 < (l0.length : Int)) = true := decide_eq_true c7
    clear c7
    by_cases c8 : ((rd_T45 l0 t254).f2) = 1
    ·rw [if_pos c8] at H
     have c8b0 : (((rd_T45 l0 t254).f2) == 1) = true := beq_iff_eq.mpr c8
     have c8b1 : (((rd_T45 l0 t254).f2) != 1) = false := bne_eq_false_iff_eq.mpr c8
     clear c8
     replace H := Option.bind_eq_some_iff.mp H
     obtain ⟨t256, A90, H⟩ := H
     replace H : (if t256 < 0 then (if (l0.length : Int) ≥ 32 then (some (([] : List (S45)), false)) else ((cantonref11_Put.f k l0 a1 ((rd_T45 l0 t254).f1) 2).bind fun t258 => (some (t258, true)))) else ((cantonref11_Put.f k l0 a1 ((rd_T45 l0 t254).f1) 2).bind fun t262 => (some (t262, true)))) = some (r1, r2) := H
     have A9 := Aside0.mk A90
     clear A90
     by_cases c10 : t256 < 0
     ·rw [if_pos c10] at H
      have c10b0 : decide (t256 < 0) = true := decide_eq_true c10
      clear c10
      by_cases c11 : (l0.length : Int) ≥ 32
      ·rw [if_pos c11] at H
       have c11b0 : decide (32 ≤ (l0.length : Int)) = true := decide_eq_true c11
       have c11b1 : decide (32 ≤ l0.length) = true := decide_eq_true (by omega)
       clear c11
       simp only [Option.some.injEq, Prod.mk.injEq] at H
       obtain ⟨rfl, rfl⟩ := H
       go_enter Try.func12, Try.ntmps12
       go_wp2_with (first | ((with_reducible refine gate_callee (f := 20) rfl ?_); refine gL (some 9) Try.func20 #[.slice A0 l0.length c0, .string a1] rfl rfl ?_; (with_reducible refine (cantonref11_Of.calls k _ _ l0 a1 t254 _ ?side1 ?side2 A3.out).mono ?_); (case side1 => exact kC (HR0.out)); (case side2 => exact HC0.out); rintro e w12 ⟨rfl, hb⟩; refine ⟨_, rfl, ?_⟩; have n0_ := Aside0.mk (below_step (kZ HB) hb); clear HB; have HB := n0_; clear n0_; (try clear hb); (try clear hb2); (try clear hk); (try clear hi); have p255 : 0 ≤ (t254 : Int) := of_decide_eq_true (by first | (with_reducible assumption) | assumption); have q255 : t254 < (l0.length : Int) := of_decide_eq_true (by first | (with_reducible assumption) | assumption); obtain ⟨ad255, e255, hx255_0, hx255_1, hx255_2⟩ := at_T45 HR0.out t254 p255 q255; cases e255; replace hx255_0 := (HB.out.cell (World.block_lt_of_cell? w _ hx255_0)).trans hx255_0; replace hx255_1 := (HB.out.cell (World.block_lt_of_cell? w _ hx255_1)).trans hx255_1; replace hx255_2 := (HB.out.cell (World.block_lt_of_cell? w _ hx255_2)).trans hx255_2; replace p255 := eq_true p255; replace q255 := eq_true q255) | (go_at_call 33; (with_reducible refine (cantonref11_Find.calls k _ _ l0 a1 t256 _ ?side1 ?side2 A9.out).mono ?_); (case side1 => exact kC ((Kd.C_below HR0.out HB.out))); (case side2 => exact HC0.out); rintro e w' ⟨rfl, ⟨nd, rfl⟩⟩))
       go_ret2
       exact ⟨_, by first | rfl | (simp [errW_none, errW_some] <;> rfl) | (simp [*, errW_none, errW_some] <;> rfl), by first | exact Kd.R_nil _ _ _ _ _ | exact Kd.N_nil _ _ _ _ _ | exact Kd.V_nil _ _ _ _ _ | exact Kd.Q_nil _ _ _ _ _ | exact Kd.S_nil _ _ _ _ _, kZ HB⟩
      ·rw [if_neg c11] at H
       have c11b0 : decide (32 ≤ (l0.length : Int)) = false := decide_eq_false c11
       have c11b1 : decide (32 ≤ l0.length) = false := decide_eq_false (by omega)
       clear c11
       replace H := Option.bind_eq_some_iff.mp H
       obtain ⟨t258, A130, H⟩ := H
       replace H : (some (t258, true)) = some (r1, r2) := H
       have A13 := Aside0.mk A130
       clear A130
       simp only [Option.some.injEq, Prod.mk.injEq] at H
       obtain ⟨rfl, rfl⟩ := H
       go_enter Try.func12, Try.ntmps12
       go_wp2_with (first | ((with_reducible refine gate_callee (f := 20) rfl ?_); refine gL (some 9) Try.func20 #[.slice A0 l0.length c0, .string a1] rfl rfl ?_; (with_reducible refine (cantonref11_Of.calls k _ _ l0 a1 t254 _ ?side1 ?side2 A3.out).mono ?_); (case side1 => exact kC (HR0.out)); (case side2 => exact HC0.out); rintro e w14 ⟨rfl, hb⟩; refine ⟨_, rfl, ?_⟩; have n0_ := Aside0.mk (below_step (kZ HB) hb); clear HB; have HB := n0_; clear n0_; (try clear hb); (try clear hb2); (try clear hk); (try clear hi); have p255 : 0 ≤ (t254 : Int) := of_decide_eq_true (by first | (with_reducible assumption) | assumption); have q255 : t254 < (l0.length : Int) := of_decide_eq_true (by first | (with_reducible assumption) | assumption); obtain ⟨ad255, e255, hx255_0, hx255_1, hx255_2⟩ := at_T45 HR0.out t254 p255 q255; cases e255; replace hx255_0 := (HB.out.cell (World.block_lt_of_cell? w _ hx255_0)).trans hx255_0; replace hx255_1 := (HB.out.cell (World.block_lt_of_cell? w _ hx255_1)).trans hx255_1; replace hx255_2 := (HB.out.cell (World.block_lt_of_cell? w _ hx255_2)).trans hx255_2; replace p255 := eq_true p255; replace q255 := eq_true q255) | (go_at_call 33; (with_reducible refine (cantonref11_Find.calls k _ _ l0 a1 t256 _ ?side1 ?side2 A9.out).mono ?_); (case side1 => exact kC ((Kd.C_below HR0.out HB.out))); (case side2 => exact HC0.out); rintro e w' ⟨rfl, ⟨nd, rfl⟩⟩; have p257 : 0 ≤ (t254 : Int) := of_decide_eq_true (by first | (with_reducible assumption) | assumption); have q257 : t254 < (l0.length : Int) := of_decide_eq_true (by first | (with_reducible assumption) | assumption); obtain ⟨ad257, e257, hx257_0, hx257_1, hx257_2⟩ := at_T45 HR0.out t254 p257 q257; obtain rfl : ad255 = ad257 := (by injection e257); replace hx257_0 := (HB.out.cell (World.block_lt_of_cell? w _ hx257_0)).trans hx257_0; replace hx257_1 := (HB.out.cell (World.block_lt_of_cell? w _ hx257_1)).trans hx257_1; replace hx257_2 := (HB.out.cell (World.block_lt_of_cell? w _ hx257_2)).trans hx257_2; replace p257 := eq_true p257; replace q257 := eq_true q257) | ((with_reducible refine gate_callee (f := 34) rfl ?_); refine gL (some 39) Try.func34 #[.slice (some ad255) l0.length c0, .agg #[.string a1, .int .i64 ((rd_T45 l0 t254).f1), .int .i64 2]] rfl rfl ?_; (with_reducible refine (cantonref11_Put.calls k _ _ l0 a1 ((rd_T45 l0 t254).f1) 2 t258 _ ?side1 ?side2 A13.out).mono ?_); (case side1 => exact kC ((Kd.C_below HR0.out (kZ HB)))); (case side2 => exact HC0.out); rintro e w15 ⟨v259, rfl, ho0, hb⟩; refine ⟨_, rfl, ?_⟩; have n0_ := Aside0.mk (Kd.R_lower ho0 (below_size (kZ HB))); have n1_ := Aside0.mk (below_step (kZ HB) hb); clear HB; have HO260 := n0_; have HB := n1_; clear n0_ n1_; (try clear hb); (try clear hb2); (try clear hk); (try clear hi); (try clear ho0)))
       go_ret2
       exact ⟨_, by first | rfl | (simp [errW_none, errW_some] <;> rfl) | (simp [*, errW_none, errW_some] <;> rfl), by (with_reducible repeat (first | apply Kd.R_alloc | apply Kd.R_drewN | apply Kd.R_drew)); exact HO260.out, kZ HB⟩
     ·rw [if_neg c10] at H
      have c10b0 : decide (t256 < 0) = false := decide_eq_false c10
      clear c10
      replace H := Option.bind_eq_some_iff.mp H
      obtain ⟨t262, A160, H⟩ := H
      replace H : (some (t262, true)) = some (r1, r2) := H
      have A16 := Aside0.mk A160
      clear A160
      simp only [Option.some.injEq, Prod.mk.injEq] at H
      obtain ⟨rfl, rfl⟩ := H
      go_enter Try.func12, Try.ntmps12
      go_wp2_with (first | ((with_reducible refine gate_callee (f := 20) rfl ?_); refine gL (some 9) Try.func20 #[.slice A0 l0.length c0, .string a1] rfl rfl ?_; (with_reducible refine (cantonref11_Of.calls k _ _ l0 a1 t254 _ ?side1 ?side2 A3.out).mono ?_); (case side1 => exact kC (HR0.out)); (case side2 => exact HC0.out); rintro e w17 ⟨rfl, hb⟩; refine ⟨_, rfl, ?_⟩; have n0_ := Aside0.mk (below_step (kZ HB) hb); clear HB; have HB := n0_; clear n0_; (try clear hb); (try clear hb2); (try clear hk); (try clear hi); have p255 : 0 ≤ (t254 : Int) := of_decide_eq_true (by first | (with_reducible assumption) | assumption); have q255 : t254 < (l0.length : Int) := of_decide_eq_true (by first | (with_reducible assumption) | assumption); obtain ⟨ad255, e255, hx255_0, hx255_1, hx255_2⟩ := at_T45 HR0.out t254 p255 q255; cases e255; replace hx255_0 := (HB.out.cell (World.block_lt_of_cell? w _ hx255_0)).trans hx255_0; replace hx255_1 := (HB.out.cell (World.block_lt_of_cell? w _ hx255_1)).trans hx255_1; replace hx255_2 := (HB.out.cell (World.block_lt_of_cell? w _ hx255_2)).trans hx255_2; replace p255 := eq_true p255; replace q255 := eq_true q255) | (go_at_call 33; (with_reducible refine (cantonref11_Find.calls k _ _ l0 a1 t256 _ ?side1 ?side2 A9.out).mono ?_); (case side1 => exact kC ((Kd.C_below HR0.out HB.out))); (case side2 => exact HC0.out); rintro e w' ⟨rfl, ⟨nd, rfl⟩⟩; have p261 : 0 ≤ (t254 : Int) := of_decide_eq_true (by first | (with_reducible assumption) | assumption); have q261 : t254 < (l0.length : Int) := of_decide_eq_true (by first | (with_reducible assumption) | assumption); obtain ⟨ad261, e261, hx261_0, hx261_1, hx261_2⟩ := at_T45 HR0.out t254 p261 q261; obtain rfl : ad255 = ad261 := (by injection e261); replace hx261_0 := (HB.out.cell (World.block_lt_of_cell? w _ hx261_0)).trans hx261_0; replace hx261_1 := (HB.out.cell (World.block_lt_of_cell? w _ hx261_1)).trans hx261_1; replace hx261_2 := (HB.out.cell (World.block_lt_of_cell? w _ hx261_2)).trans hx261_2; replace p261 := eq_true p261; replace q261 := eq_true q261) | ((with_reducible refine gate_callee (f := 34) rfl ?_); refine gL (some 39) Try.func34 #[.slice (some ad255) l0.length c0, .agg #[.string a1, .int .i64 ((rd_T45 l0 t254).f1), .int .i64 2]] rfl rfl ?_; (with_reducible refine (cantonref11_Put.calls k _ _ l0 a1 ((rd_T45 l0 t254).f1) 2 t262 _ ?side1 ?side2 A16.out).mono ?_); (case side1 => exact kC ((Kd.C_below HR0.out (kZ HB)))); (case side2 => exact HC0.out); rintro e w18 ⟨v263, rfl, ho0, hb⟩; refine ⟨_, rfl, ?_⟩; have n0_ := Aside0.mk (Kd.R_lower ho0 (below_size (kZ HB))); have n1_ := Aside0.mk (below_step (kZ HB) hb); clear HB; have HO264 := n0_; have HB := n1_; clear n0_ n1_; (try clear hb); (try clear hb2); (try clear hk); (try clear hi); (try clear ho0)))
      go_ret2
      exact ⟨_, by first | rfl | (simp [errW_none, errW_some] <;> rfl) | (simp [*, errW_none, errW_some] <;> rfl), by (with_reducible repeat (first | apply Kd.R_alloc | apply Kd.R_drewN | apply Kd.R_drew)); exact HO264.out, kZ HB⟩
    ·rw [if_neg c8] at H
     have c8b0 : (((rd_T45 l0 t254).f2) == 1) = false := beq_eq_false_iff_ne.mpr c8
     have c8b1 : (((rd_T45 l0 t254).f2) != 1) = true := bne_iff_ne.mpr c8
     simp only [Option.some.injEq, Prod.mk.injEq] at H
     obtain ⟨rfl, rfl⟩ := H
     go_enter Try.func12, Try.ntmps12
     go_wp2_with (first | ((with_reducible refine gate_callee (f := 20) rfl ?_); refine gL (some 9) Try.func20 #[.slice A0 l0.length c0, .string a1] rfl rfl ?_; (with_reducible refine (cantonref11_Of.calls k _ _ l0 a1 t254 _ ?side1 ?side2 A3.out).mono ?_); (case side1 => exact kC (HR0.out)); (case side2 => exact HC0.out); rintro e w19 ⟨rfl, hb⟩; refine ⟨_, rfl, ?_⟩; have n0_ := Aside0.mk (below_step (kZ HB) hb); clear HB; have HB := n0_; clear n0_; (try clear hb); (try clear hb2); (try clear hk); (try clear hi); have p255 : 0 ≤ (t254 : Int) := of_decide_eq_true (by first | (with_reducible assumption) | assumption); have q255 : t254 < (l0.length : Int) := of_decide_eq_true (by first | (with_reducible assumption) | assumption); obtain ⟨ad255, e255, hx255_0, hx255_1, hx255_2⟩ := at_T45 HR0.out t254 p255 q255; cases e255; replace hx255_0 := (HB.out.cell (World.block_lt_of_cell? w _ hx255_0)).trans hx255_0; replace hx255_1 := (HB.out.cell (World.block_lt_of_cell? w _ hx255_1)).trans hx255_1; replace hx255_2 := (HB.out.cell (World.block_lt_of_cell? w _ hx255_2)).trans hx255_2; replace p255 := eq_true p255; replace q255 := eq_true q255))
     go_ret2
     exact ⟨_, by first | rfl | (simp [errW_none, errW_some] <;> rfl) | (simp [*, errW_none, errW_some] <;> rfl), by first | exact Kd.R_nil _ _ _ _ _ | exact Kd.N_nil _ _ _ _ _ | exact Kd.V_nil _ _ _ _ _ | exact Kd.Q_nil _ _ _ _ _ | exact Kd.S_nil _ _ _ _ _, kZ HB⟩
   ·rw [if_neg c7] at H
    exact absurd H (by simp)
  ·rw [if_neg c6] at H
   exact absurd H (by simp)

/-! ### cantonref11_Install: function 14 -/
def cantonref11_Install.f (k : Nat) (l0 : List (S45)) (a1 : ByteArray) (a2 : Int) : Option ((List (S45)) × Bool) := (cantonref11_Find.f k l0 a1).bind fun t265 => ((cantonref11_Right.f k l0).bind fun t266 => (if t266 = true then ((cantonref01_Right.f k a1).bind fun t267 => (if t267 = true then (if a2 < 0 then (some (([] : List (S45)), false)) else (if a2 > 281474976710656 then (some (([] : List (S45)), false)) else (if t265 ≥ 0 then (if 0 ≤ t265 then (if t265 < (l0.length : Int) then (if ((rd_T45 l0 t265).f1) ≥ a2 then (some (([] : List (S45)), false)) else (if t265 < 0 then (if (l0.length : Int) ≥ 32 then (some (([] : List (S45)), false)) else ((cantonref11_Put.f k l0 a1 a2 1).bind fun t269 => (some (t269, true)))) else ((cantonref11_Put.f k l0 a1 a2 1).bind fun t272 => (some (t272, true))))) else (none)) else (none)) else (if t265 < 0 then (if (l0.length : Int) ≥ 32 then (some (([] : List (S45)), false)) else ((cantonref11_Put.f k l0 a1 a2 1).bind fun t275 => (some (t275, true)))) else ((cantonref11_Put.f k l0 a1 a2 1).bind fun t278 => (some (t278, true))))))) else (some (([] : List (S45)), false)))) else (some (([] : List (S45)), false))))
theorem cantonref11_Install.mono : ∀ a0 a1 a2 k, LeO (cantonref11_Install.f k a0 a1 a2) (cantonref11_Install.f (k + 1) a0 a1 a2) := by
 intro a0 a1 a2 k
 unfold cantonref11_Install.f
 repeat' first
   | (with_reducible exact cantonref01_Right.mono _ _)
   | (with_reducible exact cantonref11_Find.mono _ _ _)
   | (with_reducible exact cantonref11_Put.mono _ _ _ _ _)
   | (with_reducible exact cantonref11_Right.mono _ _)
   | (with_reducible exact LeO.refl _)
   | (with_reducible exact LeO.none _)
   | (with_reducible refine LeO.ite ?_ ?_)
   | (with_reducible refine LeO.bind ?_ (fun _ => ?_))
   | exact cantonref01_Right.mono _ _
   | exact cantonref11_Find.mono _ _ _
   | exact cantonref11_Put.mono _ _ _ _ _
   | exact cantonref11_Right.mono _ _
   | exact LeO.none _
   | refine LeO.ite ?_ ?_
   | refine LeO.bind ?_ (fun _ => ?_)
set_option maxHeartbeats 8000000 in
set_option maxRecDepth 100000 in
theorem cantonref11_Install.calls (k : Nat) (A0 : Option Addr) (c0 : Nat) (l0 : List (S45)) (a1 : ByteArray) (a2 : Int) (r1 : List (S45)) (r2 : Bool) (w : World) (hr0 : Kd.C k45 w A0 l0.length l0) (hc0 : l0.length ≤ c0) (h : cantonref11_Install.f k l0 a1 a2 = some (r1, r2)) :
  Calls Try.prog 14 #[.slice A0 l0.length c0, .string a1, .int .i64 a2] w fun e w' => ∃ v0_ : Value, e = .returned (.tuple #[v0_, .bool r2]) ∧ Kd.R k45 45 w' w.heap.size (fun _ => True) v0_ r1 ∧ Below w.heap.size w w' := by
 have hu45 := Try.underlying45
 have HR0 := Aside0.mk hr0
 have HC0 := Aside0.mk hc0
 clear hr0 hc0
 have HB := Aside0.mk (Below.refl w.heap.size w)
 have H : ((cantonref11_Find.f k l0 a1).bind fun t265 => ((cantonref11_Right.f k l0).bind fun t266 => (if t266 = true then ((cantonref01_Right.f k a1).bind fun t267 => (if t267 = true then (if a2 < 0 then (some (([] : List (S45)), false)) else (if a2 > 281474976710656 then (some (([] : List (S45)), false)) else (if t265 ≥ 0 then (if 0 ≤ t265 then (if t265 < (l0.length : Int) then (if ((rd_T45 l0 t265).f1) ≥ a2 then (some (([] : List (S45)), false)) else (if t265 < 0 then (if (l0.length : Int) ≥ 32 then (some (([] : List (S45)), false)) else ((cantonref11_Put.f k l0 a1 a2 1).bind fun t269 => (some (t269, true)))) else ((cantonref11_Put.f k l0 a1 a2 1).bind fun t272 => (some (t272, true))))) else (none)) else (none)) else (if t265 < 0 then (if (l0.length : Int) ≥ 32 then (some (([] : List (S45)), false)) else ((cantonref11_Put.f k l0 a1 a2 1).bind fun t275 => (some (t275, true)))) else ((cantonref11_Put.f k l0 a1 a2 1).bind fun t278 => (some (t278, true))))))) else (some (([] : List (S45)), false)))) else (some (([] : List (S45)), false))))) = some (r1, r2) := h
 clear h
 replace H := Option.bind_eq_some_iff.mp H
 obtain ⟨t265, A40, H⟩ := H
 replace H : ((cantonref11_Right.f k l0).bind fun t266 => (if t266 = true then ((cantonref01_Right.f k a1).bind fun t267 => (if t267 = true then (if a2 < 0 then (some (([] : List (S45)), false)) else (if a2 > 281474976710656 then (some (([] : List (S45)), false)) else (if t265 ≥ 0 then (if 0 ≤ t265 then (if t265 < (l0.length : Int) then (if ((rd_T45 l0 t265).f1) ≥ a2 then (some (([] : List (S45)), false)) else (if t265 < 0 then (if (l0.length : Int) ≥ 32 then (some (([] : List (S45)), false)) else ((cantonref11_Put.f k l0 a1 a2 1).bind fun t269 => (some (t269, true)))) else ((cantonref11_Put.f k l0 a1 a2 1).bind fun t272 => (some (t272, true))))) else (none)) else (none)) else (if t265 < 0 then (if (l0.length : Int) ≥ 32 then (some (([] : List (S45)), false)) else ((cantonref11_Put.f k l0 a1 a2 1).bind fun t275 => (some (t275, true)))) else ((cantonref11_Put.f k l0 a1 a2 1).bind fun t278 => (some (t278, true))))))) else (some (([] : List (S45)), false)))) else (some (([] : List (S45)), false)))) = some (r1, r2) := H
 have A4 := Aside0.mk A40
 clear A40
 replace H := Option.bind_eq_some_iff.mp H
 obtain ⟨t266, A50, H⟩ := H
 replace H : (if t266 = true then ((cantonref01_Right.f k a1).bind fun t267 => (if t267 = true then (if a2 < 0 then (some (([] : List (S45)), false)) else (if a2 > 281474976710656 then (some (([] : List (S45)), false)) else (if t265 ≥ 0 then (if 0 ≤ t265 then (if t265 < (l0.length : Int) then (if ((rd_T45 l0 t265).f1) ≥ a2 then (some (([] : List (S45)), false)) else (if t265 < 0 then (if (l0.length : Int) ≥ 32 then (some (([] : List (S45)), false)) else ((cantonref11_Put.f k l0 a1 a2 1).bind fun t269 => (some (t269, true)))) else ((cantonref11_Put.f k l0 a1 a2 1).bind fun t272 => (some (t272, true))))) else (none)) else (none)) else (if t265 < 0 then (if (l0.length : Int) ≥ 32 then (some (([] : List (S45)), false)) else ((cantonref11_Put.f k l0 a1 a2 1).bind fun t275 => (some (t275, true)))) else ((cantonref11_Put.f k l0 a1 a2 1).bind fun t278 => (some (t278, true))))))) else (some (([] : List (S45)), false)))) else (some (([] : List (S45)), false))) = some (r1, r2) := H
 have A5 := Aside0.mk A50
 clear A50
 by_cases c6 : t266 = true
 ·subst c6
  have H1 : ((cantonref01_Right.f k a1).bind fun t267 => (if t267 = true then (if a2 < 0 then (some (([] : List (S45)), false)) else (if a2 > 281474976710656 then (some (([] : List (S45)), false)) else (if t265 ≥ 0 then (if 0 ≤ t265 then (if t265 < (l0.length : Int) then (if ((rd_T45 l0 t265).f1) ≥ a2 then (some (([] : List (S45)), false)) else (if t265 < 0 then (if (l0.length : Int) ≥ 32 then (some (([] : List (S45)), false)) else ((cantonref11_Put.f k l0 a1 a2 1).bind fun t269 => (some (t269, true)))) else ((cantonref11_Put.f k l0 a1 a2 1).bind fun t272 => (some (t272, true))))) else (none)) else (none)) else (if t265 < 0 then (if (l0.length : Int) ≥ 32 then (some (([] : List (S45)), false)) else ((cantonref11_Put.f k l0 a1 a2 1).bind fun t275 => (some (t275, true)))) else ((cantonref11_Put.f k l0 a1 a2 1).bind fun t278 => (some (t278, true))))))) else (some (([] : List (S45)), false)))) = some (r1, r2) := by rw [if_pos rfl] at H; exact H
  clear H
  have H := H1
  clear H1
  replace H := Option.bind_eq_some_iff.mp H
  obtain ⟨t267, A70, H⟩ := H
  replace H : (if t267 = true then (if a2 < 0 then (some (([] : List (S45)), false)) else (if a2 > 281474976710656 then (some (([] : List (S45)), false)) else (if t265 ≥ 0 then (if 0 ≤ t265 then (if t265 < (l0.length : Int) then (if ((rd_T45 l0 t265).f1) ≥ a2 then (some (([] : List (S45)), false)) else (if t265 < 0 then (if (l0.length : Int) ≥ 32 then (some (([] : List (S45)), false)) else ((cantonref11_Put.f k l0 a1 a2 1).bind fun t269 => (some (t269, true)))) else ((cantonref11_Put.f k l0 a1 a2 1).bind fun t272 => (some (t272, true))))) else (none)) else (none)) else (if t265 < 0 then (if (l0.length : Int) ≥ 32 then (some (([] : List (S45)), false)) else ((cantonref11_Put.f k l0 a1 a2 1).bind fun t275 => (some (t275, true)))) else ((cantonref11_Put.f k l0 a1 a2 1).bind fun t278 => (some (t278, true))))))) else (some (([] : List (S45)), false))) = some (r1, r2) := H
  have A7 := Aside0.mk A70
  clear A70
  by_cases c8 : t267 = true
  ·subst c8
   have H1 : (if a2 < 0 then (some (([] : List (S45)), false)) else (if a2 > 281474976710656 then (some (([] : List (S45)), false)) else (if t265 ≥ 0 then (if 0 ≤ t265 then (if t265 < (l0.length : Int) then (if ((rd_T45 l0 t265).f1) ≥ a2 then (some (([] : List (S45)), false)) else (if t265 < 0 then (if (l0.length : Int) ≥ 32 then (some (([] : List (S45)), false)) else ((cantonref11_Put.f k l0 a1 a2 1).bind fun t269 => (some (t269, true)))) else ((cantonref11_Put.f k l0 a1 a2 1).bind fun t272 => (some (t272, true))))) else (none)) else (none)) else (if t265 < 0 then (if (l0.length : Int) ≥ 32 then (some (([] : List (S45)), false)) else ((cantonref11_Put.f k l0 a1 a2 1).bind fun t275 => (some (t275, true)))) else ((cantonref11_Put.f k l0 a1 a2 1).bind fun t278 => (some (t278, true))))))) = some (r1, r2) := by rw [if_pos rfl] at H; exact H
   clear H
   have H := H1
   clear H1
   by_cases c9 : a2 < 0
   ·rw [if_pos c9] at H
    have c9b0 : decide (a2 < 0) = true := decide_eq_true c9
    clear c9
    simp only [Option.some.injEq, Prod.mk.injEq] at H
    obtain ⟨rfl, rfl⟩ := H
    go_enter Try.func14, Try.ntmps14
    go_wp2_with (first | ((with_reducible refine gate_callee (f := 33) rfl ?_); refine gL (some 11) Try.func33 #[.slice A0 l0.length c0, .string a1] rfl rfl ?_; (with_reducible refine (cantonref11_Find.calls k _ _ l0 a1 t265 _ ?side1 ?side2 A4.out).mono ?_); (case side1 => exact kC (HR0.out)); (case side2 => exact HC0.out); rintro e w' ⟨rfl, ⟨nd, rfl⟩⟩; refine ⟨_, rfl, ?_⟩) | ((with_reducible refine gate_callee (f := 18) rfl ?_); refine gL (some 13) Try.func18 #[.slice A0 l0.length c0] rfl rfl ?_; (with_reducible refine (cantonref11_Right.calls k _ _ l0 true _ ?side1 ?side2 A5.out).mono ?_); (case side1 => exact kC (HR0.out)); (case side2 => exact HC0.out); rintro e w10 ⟨rfl, hb⟩; refine ⟨_, rfl, ?_⟩; have n0_ := Aside0.mk (below_step (kZ HB) hb); clear HB; have HB := n0_; clear n0_; (try clear hb); (try clear hb2); (try clear hk); (try clear hi)) | (go_at_call 29; (with_reducible refine (cantonref01_Right.calls k a1 true _ A7.out).mono ?_); rintro e w11 ⟨rfl, hb⟩; have n0_ := Aside0.mk (below_step (kZ HB) hb); clear HB; have HB := n0_; clear n0_; (try clear hb); (try clear hb2); (try clear hk); (try clear hi)))
    go_ret2
    exact ⟨_, by first | rfl | (simp [errW_none, errW_some] <;> rfl) | (simp [*, errW_none, errW_some] <;> rfl), by first | exact Kd.R_nil _ _ _ _ _ | exact Kd.N_nil _ _ _ _ _ | exact Kd.V_nil _ _ _ _ _ | exact Kd.Q_nil _ _ _ _ _ | exact Kd.S_nil _ _ _ _ _, kZ HB⟩
   ·rw [if_neg c9] at H
    have c9b0 : decide (a2 < 0) = false := decide_eq_false c9
    clear c9
    by_cases c12 : a2 > 281474976710656
    ·rw [if_pos c12] at H
     have c12b0 : decide (281474976710656 < a2) = true := decide_eq_true c12
     clear c12
     simp only [Option.some.injEq, Prod.mk.injEq] at H
     obtain ⟨rfl, rfl⟩ := H
     go_enter Try.func14, Try.ntmps14
     go_wp2_with (first | ((with_reducible refine gate_callee (f := 33) rfl ?_); refine gL (some 11) Try.func33 #[.slice A0 l0.length c0, .string a1] rfl rfl ?_; (with_reducible refine (cantonref11_Find.calls k _ _ l0 a1 t265 _ ?side1 ?side2 A4.out).mono ?_); (case side1 => exact kC (HR0.out)); (case side2 => exact HC0.out); rintro e w' ⟨rfl, ⟨nd, rfl⟩⟩; refine ⟨_, rfl, ?_⟩) | ((with_reducible refine gate_callee (f := 18) rfl ?_); refine gL (some 13) Try.func18 #[.slice A0 l0.length c0] rfl rfl ?_; (with_reducible refine (cantonref11_Right.calls k _ _ l0 true _ ?side1 ?side2 A5.out).mono ?_); (case side1 => exact kC (HR0.out)); (case side2 => exact HC0.out); rintro e w13 ⟨rfl, hb⟩; refine ⟨_, rfl, ?_⟩; have n0_ := Aside0.mk (below_step (kZ HB) hb); clear HB; have HB := n0_; clear n0_; (try clear hb); (try clear hb2); (try clear hk); (try clear hi)) | (go_at_call 29; (with_reducible refine (cantonref01_Right.calls k a1 true _ A7.out).mono ?_); rintro e w14 ⟨rfl, hb⟩; have n0_ := Aside0.mk (below_step (kZ HB) hb); clear HB; have HB := n0_; clear n0_; (try clear hb); (try clear hb2); (try clear hk); (try clear hi)))
     go_ret2
     exact ⟨_, by first | rfl | (simp [errW_none, errW_some] <;> rfl) | (simp [*, errW_none, errW_some] <;> rfl), by first | exact Kd.R_nil _ _ _ _ _ | exact Kd.N_nil _ _ _ _ _ | exact Kd.V_nil _ _ _ _ _ | exact Kd.Q_nil _ _ _ _ _ | exact Kd.S_nil _ _ _ _ _, kZ HB⟩
    ·rw [if_neg c12] at H
     have c12b0 : decide (281474976710656 < a2) = false := decide_eq_false c12
     clear c12
     by_cases c15 : t265 ≥ 0
     ·rw [if_pos c15] at H
      have c15b0 : decide (0 ≤ t265) = true := decide_eq_true c15
      clear c15
      by_cases c16 : 0 ≤ t265
      ·rw [if_pos c16] at H
       have c16b0 : decide (0 ≤ t265) = true := decide_eq_true c16
       clear c16
       by_cases c17 : t265 < (l0.length : Int)
       ·rw [if_pos c17] at H
        have c17b0 : decide (t265 < (l0.length : Int)) = true := decide_eq_true c17
        clear c17
        by_cases c18 : ((rd_T45 l0 t265).f1) ≥ a2
        ·rw [if_pos c18] at H
         have c18b0 : decide (a2 ≤ ((rd_T45 l0 t265).f1)) = true := decide_eq_true c18
         clear c18
         simp only [Option.some.injEq, Prod.mk.injEq] at H
         obtain ⟨rfl, rfl⟩ := H
         go_enter Try.func14, Try.ntmps14
         go_wp2_with (first | ((with_reducible refine gate_callee (f := 33) rfl ?_); refine gL (some 11) Try.func33 #[.slice A0 l0.length c0, .string a1] rfl rfl ?_; (with_reducible refine (cantonref11_Find.calls k _ _ l0 a1 t265 _ ?side1 ?side2 A4.out).mono ?_); (case side1 => exact kC (HR0.out)); (case side2 => exact HC0.out); rintro e w' ⟨rfl, ⟨nd, rfl⟩⟩; refine ⟨_, rfl, ?_⟩) | ((with_reducible refine gate_callee (f := 18) rfl ?_); refine gL (some 13) Try.func18 #[.slice A0 l0.length c0] rfl rfl ?_; (with_reducible refine (cantonref11_Right.calls k _ _ l0 true _ ?side1 ?side2 A5.out).mono ?_); (case side1 => exact kC (HR0.out)); (case side2 => exact HC0.out); rintro e w19 ⟨rfl, hb⟩; refine ⟨_, rfl, ?_⟩; have n0_ := Aside0.mk (below_step (kZ HB) hb); clear HB; have HB := n0_; clear n0_; (try clear hb); (try clear hb2); (try clear hk); (try clear hi)) | (go_at_call 29; (with_reducible refine (cantonref01_Right.calls k a1 true _ A7.out).mono ?_); rintro e w20 ⟨rfl, hb⟩; have n0_ := Aside0.mk (below_step (kZ HB) hb); clear HB; have HB := n0_; clear n0_; (try clear hb); (try clear hb2); (try clear hk); (try clear hi); have p268 : 0 ≤ (t265 : Int) := of_decide_eq_true (by first | (with_reducible assumption) | assumption); have q268 : t265 < (l0.length : Int) := of_decide_eq_true (by first | (with_reducible assumption) | assumption); obtain ⟨ad268, e268, hx268_0, hx268_1, hx268_2⟩ := at_T45 HR0.out t265 p268 q268; cases e268; replace hx268_0 := (HB.out.cell (World.block_lt_of_cell? w _ hx268_0)).trans hx268_0; replace hx268_1 := (HB.out.cell (World.block_lt_of_cell? w _ hx268_1)).trans hx268_1; replace hx268_2 := (HB.out.cell (World.block_lt_of_cell? w _ hx268_2)).trans hx268_2; replace p268 := eq_true p268; replace q268 := eq_true q268))
         go_ret2
         exact ⟨_, by first | rfl | (simp [errW_none, errW_some] <;> rfl) | (simp [*, errW_none, errW_some] <;> rfl), by first | exact Kd.R_nil _ _ _ _ _ | exact Kd.N_nil _ _ _ _ _ | exact Kd.V_nil _ _ _ _ _ | exact Kd.Q_nil _ _ _ _ _ | exact Kd.S_nil _ _ _ _ _, kZ HB⟩
        ·rw [if_neg c18] at H
         have c18b0 : decide (a2 ≤ ((rd_T45 l0 t265).f1)) = false := decide_eq_false c18
         clear c18
         by_cases c21 : t265 < 0
         ·rw [if_pos c21] at H
          have c21b0 : decide (t265 < 0) = true := decide_eq_true c21
          clear c21
          by_cases c22 : (l0.length : Int) ≥ 32
          ·rw [if_pos c22] at H
           have c22b0 : decide (32 ≤ (l0.length : Int)) = true := decide_eq_true c22
           have c22b1 : decide (32 ≤ l0.length) = true := decide_eq_true (by omega)
           clear c22
           simp only [Option.some.injEq, Prod.mk.injEq] at H
           obtain ⟨rfl, rfl⟩ := H
           go_enter Try.func14, Try.ntmps14
           go_wp2_with (first | ((with_reducible refine gate_callee (f := 33) rfl ?_); refine gL (some 11) Try.func33 #[.slice A0 l0.length c0, .string a1] rfl rfl ?_; (with_reducible refine (cantonref11_Find.calls k _ _ l0 a1 t265 _ ?side1 ?side2 A4.out).mono ?_); (case side1 => exact kC (HR0.out)); (case side2 => exact HC0.out); rintro e w' ⟨rfl, ⟨nd, rfl⟩⟩; refine ⟨_, rfl, ?_⟩) | ((with_reducible refine gate_callee (f := 18) rfl ?_); refine gL (some 13) Try.func18 #[.slice A0 l0.length c0] rfl rfl ?_; (with_reducible refine (cantonref11_Right.calls k _ _ l0 true _ ?side1 ?side2 A5.out).mono ?_); (case side1 => exact kC (HR0.out)); (case side2 => exact HC0.out); rintro e w23 ⟨rfl, hb⟩; refine ⟨_, rfl, ?_⟩; have n0_ := Aside0.mk (below_step (kZ HB) hb); clear HB; have HB := n0_; clear n0_; (try clear hb); (try clear hb2); (try clear hk); (try clear hi)) | (go_at_call 29; (with_reducible refine (cantonref01_Right.calls k a1 true _ A7.out).mono ?_); rintro e w24 ⟨rfl, hb⟩; have n0_ := Aside0.mk (below_step (kZ HB) hb); clear HB; have HB := n0_; clear n0_; (try clear hb); (try clear hb2); (try clear hk); (try clear hi); have p268 : 0 ≤ (t265 : Int) := of_decide_eq_true (by first | (with_reducible assumption) | assumption); have q268 : t265 < (l0.length : Int) := of_decide_eq_true (by first | (with_reducible assumption) | assumption); obtain ⟨ad268, e268, hx268_0, hx268_1, hx268_2⟩ := at_T45 HR0.out t265 p268 q268; cases e268; replace hx268_0 := (HB.out.cell (World.block_lt_of_cell? w _ hx268_0)).trans hx268_0; replace hx268_1 := (HB.out.cell (World.block_lt_of_cell? w _ hx268_1)).trans hx268_1; replace hx268_2 := (HB.out.cell (World.block_lt_of_cell? w _ hx268_2)).trans hx268_2; replace p268 := eq_true p268; replace q268 := eq_true q268))
           go_ret2
           exact ⟨_, by first | rfl | (simp [errW_none, errW_some] <;> rfl) | (simp [*, errW_none, errW_some] <;> rfl), by first | exact Kd.R_nil _ _ _ _ _ | exact Kd.N_nil _ _ _ _ _ | exact Kd.V_nil _ _ _ _ _ | exact Kd.Q_nil _ _ _ _ _ | exact Kd.S_nil _ _ _ _ _, kZ HB⟩
          ·rw [if_neg c22] at H
           have c22b0 : decide (32 ≤ (l0.length : Int)) = false := decide_eq_false c22
           have c22b1 : decide (32 ≤ l0.length) = false := decide_eq_false (by omega)
           clear c22
           replace H := Option.bind_eq_some_iff.mp H
           obtain ⟨t269, A250, H⟩ := H
           replace H : (some (t269, true)) = some (r1, r2) := H
           have A25 := Aside0.mk A250
           clear A250
           simp only [Option.some.injEq, Prod.mk.injEq] at H
           obtain ⟨rfl, rfl⟩ := H
           go_enter Try.func14, Try.ntmps14
           go_wp2_with (first | ((with_reducible refine gate_callee (f := 33) rfl ?_); refine gL (some 11) Try.func33 #[.slice A0 l0.length c0, .string a1] rfl rfl ?_; (with_reducible refine (cantonref11_Find.calls k _ _ l0 a1 t265 _ ?side1 ?side2 A4.out).mono ?_); (case side1 => exact kC (HR0.out)); (case side2 => exact HC0.out); rintro e w' ⟨rfl, ⟨nd, rfl⟩⟩; refine ⟨_, rfl, ?_⟩) | ((with_reducible refine gate_callee (f := 18) rfl ?_); refine gL (some 13) Try.func18 #[.slice A0 l0.length c0] rfl rfl ?_; (with_reducible refine (cantonref11_Right.calls k _ _ l0 true _ ?side1 ?side2 A5.out).mono ?_); (case side1 => exact kC (HR0.out)); (case side2 => exact HC0.out); rintro e w26 ⟨rfl, hb⟩; refine ⟨_, rfl, ?_⟩; have n0_ := Aside0.mk (below_step (kZ HB) hb); clear HB; have HB := n0_; clear n0_; (try clear hb); (try clear hb2); (try clear hk); (try clear hi)) | (go_at_call 29; (with_reducible refine (cantonref01_Right.calls k a1 true _ A7.out).mono ?_); rintro e w27 ⟨rfl, hb⟩; have n0_ := Aside0.mk (below_step (kZ HB) hb); clear HB; have HB := n0_; clear n0_; (try clear hb); (try clear hb2); (try clear hk); (try clear hi); have p268 : 0 ≤ (t265 : Int) := of_decide_eq_true (by first | (with_reducible assumption) | assumption); have q268 : t265 < (l0.length : Int) := of_decide_eq_true (by first | (with_reducible assumption) | assumption); obtain ⟨ad268, e268, hx268_0, hx268_1, hx268_2⟩ := at_T45 HR0.out t265 p268 q268; cases e268; replace hx268_0 := (HB.out.cell (World.block_lt_of_cell? w _ hx268_0)).trans hx268_0; replace hx268_1 := (HB.out.cell (World.block_lt_of_cell? w _ hx268_1)).trans hx268_1; replace hx268_2 := (HB.out.cell (World.block_lt_of_cell? w _ hx268_2)).trans hx268_2; replace p268 := eq_true p268; replace q268 := eq_true q268) | ((with_reducible refine gate_callee (f := 34) rfl ?_); refine gL (some 54) Try.func34 #[.slice (some ad268) l0.length c0, .agg #[.string a1, .int .i64 a2, .int .i64 1]] rfl rfl ?_; (with_reducible refine (cantonref11_Put.calls k _ _ l0 a1 a2 1 t269 _ ?side1 ?side2 A25.out).mono ?_); (case side1 => exact kC ((Kd.C_below HR0.out HB.out))); (case side2 => exact HC0.out); rintro e w28 ⟨v270, rfl, ho0, hb⟩; refine ⟨_, rfl, ?_⟩; have n0_ := Aside0.mk (Kd.R_lower ho0 (below_size (kZ HB))); have n1_ := Aside0.mk (below_step (kZ HB) hb); clear HB; have HO271 := n0_; have HB := n1_; clear n0_ n1_; (try clear hb); (try clear hb2); (try clear hk); (try clear hi); (try clear ho0)))
           go_ret2
           exact ⟨_, by first | rfl | (simp [errW_none, errW_some] <;> rfl) | (simp [*, errW_none, errW_some] <;> rfl), by (with_reducible repeat (first | apply Kd.R_alloc | apply Kd.R_drewN | apply Kd.R_drew)); exact HO271.out, kZ HB⟩
         ·rw [if_neg c21] at H
          have c21b0 : decide (t265 < 0) = false := decide_eq_false c21
          clear c21
          replace H := Option.bind_eq_some_iff.mp H
          obtain ⟨t272, A290, H⟩ := H
          replace H : (some (t272, true)) = some (r1, r2) := H
          have A29 := Aside0.mk A290
          clear A290
          simp only [Option.some.injEq, Prod.mk.injEq] at H
          obtain ⟨rfl, rfl⟩ := H
          go_enter Try.func14, Try.ntmps14
          go_wp2_with (first | ((with_reducible refine gate_callee (f := 33) rfl ?_); refine gL (some 11) Try.func33 #[.slice A0 l0.length c0, .string a1] rfl rfl ?_; (with_reducible refine (cantonref11_Find.calls k _ _ l0 a1 t265 _ ?side1 ?side2 A4.out).mono ?_); (case side1 => exact kC (HR0.out)); (case side2 => exact HC0.out); rintro e w' ⟨rfl, ⟨nd, rfl⟩⟩; refine ⟨_, rfl, ?_⟩) | ((with_reducible refine gate_callee (f := 18) rfl ?_); refine gL (some 13) Try.func18 #[.slice A0 l0.length c0] rfl rfl ?_; (with_reducible refine (cantonref11_Right.calls k _ _ l0 true _ ?side1 ?side2 A5.out).mono ?_); (case side1 => exact kC (HR0.out)); (case side2 => exact HC0.out); rintro e w30 ⟨rfl, hb⟩; refine ⟨_, rfl, ?_⟩; have n0_ := Aside0.mk (below_step (kZ HB) hb); clear HB; have HB := n0_; clear n0_; (try clear hb); (try clear hb2); (try clear hk); (try clear hi)) | (go_at_call 29; (with_reducible refine (cantonref01_Right.calls k a1 true _ A7.out).mono ?_); rintro e w31 ⟨rfl, hb⟩; have n0_ := Aside0.mk (below_step (kZ HB) hb); clear HB; have HB := n0_; clear n0_; (try clear hb); (try clear hb2); (try clear hk); (try clear hi); have p268 : 0 ≤ (t265 : Int) := of_decide_eq_true (by first | (with_reducible assumption) | assumption); have q268 : t265 < (l0.length : Int) := of_decide_eq_true (by first | (with_reducible assumption) | assumption); obtain ⟨ad268, e268, hx268_0, hx268_1, hx268_2⟩ := at_T45 HR0.out t265 p268 q268; cases e268; replace hx268_0 := (HB.out.cell (World.block_lt_of_cell? w _ hx268_0)).trans hx268_0; replace hx268_1 := (HB.out.cell (World.block_lt_of_cell? w _ hx268_1)).trans hx268_1; replace hx268_2 := (HB.out.cell (World.block_lt_of_cell? w _ hx268_2)).trans hx268_2; replace p268 := eq_true p268; replace q268 := eq_true q268) | ((with_reducible refine gate_callee (f := 34) rfl ?_); refine gL (some 54) Try.func34 #[.slice (some ad268) l0.length c0, .agg #[.string a1, .int .i64 a2, .int .i64 1]] rfl rfl ?_; (with_reducible refine (cantonref11_Put.calls k _ _ l0 a1 a2 1 t272 _ ?side1 ?side2 A29.out).mono ?_); (case side1 => exact kC ((Kd.C_below HR0.out HB.out))); (case side2 => exact HC0.out); rintro e w32 ⟨v273, rfl, ho0, hb⟩; refine ⟨_, rfl, ?_⟩; have n0_ := Aside0.mk (Kd.R_lower ho0 (below_size (kZ HB))); have n1_ := Aside0.mk (below_step (kZ HB) hb); clear HB; have HO274 := n0_; have HB := n1_; clear n0_ n1_; (try clear hb); (try clear hb2); (try clear hk); (try clear hi); (try clear ho0)))
          go_ret2
          exact ⟨_, by first | rfl | (simp [errW_none, errW_some] <;> rfl) | (simp [*, errW_none, errW_some] <;> rfl), by (with_reducible repeat (first | apply Kd.R_alloc | apply Kd.R_drewN | apply Kd.R_drew)); exact HO274.out, kZ HB⟩
       ·rw [if_neg c17] at H
        exact absurd H (by simp)
      ·rw [if_neg c16] at H
       exact absurd H (by simp)
     ·rw [if_neg c15] at H
      have c15b0 : decide (0 ≤ t265) = false := decide_eq_false c15
      clear c15
      by_cases c33 : t265 < 0
      ·rw [if_pos c33] at H
       have c33b0 : decide (t265 < 0) = true := decide_eq_true c33
       clear c33
       by_cases c34 : (l0.length : Int) ≥ 32
       ·rw [if_pos c34] at H
        have c34b0 : decide (32 ≤ (l0.length : Int)) = true := decide_eq_true c34
        have c34b1 : decide (32 ≤ l0.length) = true := decide_eq_true (by omega)
        clear c34
        simp only [Option.some.injEq, Prod.mk.injEq] at H
        obtain ⟨rfl, rfl⟩ := H
        go_enter Try.func14, Try.ntmps14
        go_wp2_with (first | ((with_reducible refine gate_callee (f := 33) rfl ?_); refine gL (some 11) Try.func33 #[.slice A0 l0.length c0, .string a1] rfl rfl ?_; (with_reducible refine (cantonref11_Find.calls k _ _ l0 a1 t265 _ ?side1 ?side2 A4.out).mono ?_); (case side1 => exact kC (HR0.out)); (case side2 => exact HC0.out); rintro e w' ⟨rfl, ⟨nd, rfl⟩⟩; refine ⟨_, rfl, ?_⟩) | ((with_reducible refine gate_callee (f := 18) rfl ?_); refine gL (some 13) Try.func18 #[.slice A0 l0.length c0] rfl rfl ?_; (with_reducible refine (cantonref11_Right.calls k _ _ l0 true _ ?side1 ?side2 A5.out).mono ?_); (case side1 => exact kC (HR0.out)); (case side2 => exact HC0.out); rintro e w35 ⟨rfl, hb⟩; refine ⟨_, rfl, ?_⟩; have n0_ := Aside0.mk (below_step (kZ HB) hb); clear HB; have HB := n0_; clear n0_; (try clear hb); (try clear hb2); (try clear hk); (try clear hi)) | (go_at_call 29; (with_reducible refine (cantonref01_Right.calls k a1 true _ A7.out).mono ?_); rintro e w36 ⟨rfl, hb⟩; have n0_ := Aside0.mk (below_step (kZ HB) hb); clear HB; have HB := n0_; clear n0_; (try clear hb); (try clear hb2); (try clear hk); (try clear hi)))
        go_ret2
        exact ⟨_, by first | rfl | (simp [errW_none, errW_some] <;> rfl) | (simp [*, errW_none, errW_some] <;> rfl), by first | exact Kd.R_nil _ _ _ _ _ | exact Kd.N_nil _ _ _ _ _ | exact Kd.V_nil _ _ _ _ _ | exact Kd.Q_nil _ _ _ _ _ | exact Kd.S_nil _ _ _ _ _, kZ HB⟩
       ·rw [if_neg c34] at H
        have c34b0 : decide (32 ≤ (l0.length : Int)) = false := decide_eq_false c34
        have c34b1 : decide (32 ≤ l0.length) = false := decide_eq_false (by omega)
        clear c34
        replace H := Option.bind_eq_some_iff.mp H
        obtain ⟨t275, A370, H⟩ := H
        replace H : (some (t275, true)) = some (r1, r2) := H
        have A37 := Aside0.mk A370
        clear A370
        simp only [Option.some.injEq, Prod.mk.injEq] at H
        obtain ⟨rfl, rfl⟩ := H
        go_enter Try.func14, Try.ntmps14
        go_wp2_with (first | ((with_reducible refine gate_callee (f := 33) rfl ?_); refine gL (some 11) Try.func33 #[.slice A0 l0.length c0, .string a1] rfl rfl ?_; (with_reducible refine (cantonref11_Find.calls k _ _ l0 a1 t265 _ ?side1 ?side2 A4.out).mono ?_); (case side1 => exact kC (HR0.out)); (case side2 => exact HC0.out); rintro e w' ⟨rfl, ⟨nd, rfl⟩⟩; refine ⟨_, rfl, ?_⟩) | ((with_reducible refine gate_callee (f := 18) rfl ?_); refine gL (some 13) Try.func18 #[.slice A0 l0.length c0] rfl rfl ?_; (with_reducible refine (cantonref11_Right.calls k _ _ l0 true _ ?side1 ?side2 A5.out).mono ?_); (case side1 => exact kC (HR0.out)); (case side2 => exact HC0.out); rintro e w38 ⟨rfl, hb⟩; refine ⟨_, rfl, ?_⟩; have n0_ := Aside0.mk (below_step (kZ HB) hb); clear HB; have HB := n0_; clear n0_; (try clear hb); (try clear hb2); (try clear hk); (try clear hi)) | (go_at_call 29; (with_reducible refine (cantonref01_Right.calls k a1 true _ A7.out).mono ?_); rintro e w39 ⟨rfl, hb⟩; have n0_ := Aside0.mk (below_step (kZ HB) hb); clear HB; have HB := n0_; clear n0_; (try clear hb); (try clear hb2); (try clear hk); (try clear hi)) | ((with_reducible refine gate_callee (f := 34) rfl ?_); refine gL (some 54) Try.func34 #[.slice A0 l0.length c0, .agg #[.string a1, .int .i64 a2, .int .i64 1]] rfl rfl ?_; (with_reducible refine (cantonref11_Put.calls k _ _ l0 a1 a2 1 t275 _ ?side1 ?side2 A37.out).mono ?_); (case side1 => exact kC ((Kd.C_below HR0.out HB.out))); (case side2 => exact HC0.out); rintro e w40 ⟨v276, rfl, ho0, hb⟩; refine ⟨_, rfl, ?_⟩; have n0_ := Aside0.mk (Kd.R_lower ho0 (below_size (kZ HB))); have n1_ := Aside0.mk (below_step (kZ HB) hb); clear HB; have HO277 := n0_; have HB := n1_; clear n0_ n1_; (try clear hb); (try clear hb2); (try clear hk); (try clear hi); (try clear ho0)))
        go_ret2
        exact ⟨_, by first | rfl | (simp [errW_none, errW_some] <;> rfl) | (simp [*, errW_none, errW_some] <;> rfl), by (with_reducible repeat (first | apply Kd.R_alloc | apply Kd.R_drewN | apply Kd.R_drew)); exact HO277.out, kZ HB⟩
      ·rw [if_neg c33] at H
       have c33b0 : decide (t265 < 0) = false := decide_eq_false c33
       clear c33
       replace H := Option.bind_eq_some_iff.mp H
       obtain ⟨t278, A410, H⟩ := H
       replace H : (some (t278, true)) = some (r1, r2) := H
       have A41 := Aside0.mk A410
       clear A410
       simp only [Option.some.injEq, Prod.mk.injEq] at H
       obtain ⟨rfl, rfl⟩ := H
       go_enter Try.func14, Try.ntmps14
       go_wp2_with (first | ((with_reducible refine gate_callee (f := 33) rfl ?_); refine gL (some 11) Try.func33 #[.slice A0 l0.length c0, .string a1] rfl rfl ?_; (with_reducible refine (cantonref11_Find.calls k _ _ l0 a1 t265 _ ?side1 ?side2 A4.out).mono ?_); (case side1 => exact kC (HR0.out)); (case side2 => exact HC0.out); rintro e w' ⟨rfl, ⟨nd, rfl⟩⟩; refine ⟨_, rfl, ?_⟩) | ((with_reducible refine gate_callee (f := 18) rfl ?_); refine gL (some 13) Try.func18 #[.slice A0 l0.length c0] rfl rfl ?_; (with_reducible refine (cantonref11_Right.calls k _ _ l0 true _ ?side1 ?side2 A5.out).mono ?_); (case side1 => exact kC (HR0.out)); (case side2 => exact HC0.out); rintro e w42 ⟨rfl, hb⟩; refine ⟨_, rfl, ?_⟩; have n0_ := Aside0.mk (below_step (kZ HB) hb); clear HB; have HB := n0_; clear n0_; (try clear hb); (try clear hb2); (try clear hk); (try clear hi)) | (go_at_call 29; (with_reducible refine (cantonref01_Right.calls k a1 true _ A7.out).mono ?_); rintro e w43 ⟨rfl, hb⟩; have n0_ := Aside0.mk (below_step (kZ HB) hb); clear HB; have HB := n0_; clear n0_; (try clear hb); (try clear hb2); (try clear hk); (try clear hi)) | ((with_reducible refine gate_callee (f := 34) rfl ?_); refine gL (some 54) Try.func34 #[.slice A0 l0.length c0, .agg #[.string a1, .int .i64 a2, .int .i64 1]] rfl rfl ?_; (with_reducible refine (cantonref11_Put.calls k _ _ l0 a1 a2 1 t278 _ ?side1 ?side2 A41.out).mono ?_); (case side1 => exact kC ((Kd.C_below HR0.out HB.out))); (case side2 => exact HC0.out); rintro e w44 ⟨v279, rfl, ho0, hb⟩; refine ⟨_, rfl, ?_⟩; have n0_ := Aside0.mk (Kd.R_lower ho0 (below_size (kZ HB))); have n1_ := Aside0.mk (below_step (kZ HB) hb); clear HB; have HO280 := n0_; have HB := n1_; clear n0_ n1_; (try clear hb); (try clear hb2); (try clear hk); (try clear hi); (try clear ho0)))
       go_ret2
       exact ⟨_, by first | rfl | (simp [errW_none, errW_some] <;> rfl) | (simp [*, errW_none, errW_some] <;> rfl), by (with_reducible repeat (first | apply Kd.R_alloc | apply Kd.R_drewN | apply Kd.R_drew)); exact HO280.out, kZ HB⟩
  ·replace c8 := Bool.eq_false_iff.mpr c8
   subst c8
   have H1 : (some (([] : List (S45)), false)) = some (r1, r2) := by rw [if_neg (show ¬ (false = true) by decide)] at H; exact H
   clear H
   have H := H1
   clear H1
   simp only [Option.some.injEq, Prod.mk.injEq] at H
   obtain ⟨rfl, rfl⟩ := H
   go_enter Try.func14, Try.ntmps14
   go_wp2_with (first | ((with_reducible refine gate_callee (f := 33) rfl ?_); refine gL (some 11) Try.func33 #[.slice A0 l0.length c0, .string a1] rfl rfl ?_; (with_reducible refine (cantonref11_Find.calls k _ _ l0 a1 t265 _ ?side1 ?side2 A4.out).mono ?_); (case side1 => exact kC (HR0.out)); (case side2 => exact HC0.out); rintro e w' ⟨rfl, ⟨nd, rfl⟩⟩; refine ⟨_, rfl, ?_⟩) | ((with_reducible refine gate_callee (f := 18) rfl ?_); refine gL (some 13) Try.func18 #[.slice A0 l0.length c0] rfl rfl ?_; (with_reducible refine (cantonref11_Right.calls k _ _ l0 true _ ?side1 ?side2 A5.out).mono ?_); (case side1 => exact kC (HR0.out)); (case side2 => exact HC0.out); rintro e w45 ⟨rfl, hb⟩; refine ⟨_, rfl, ?_⟩; have n0_ := Aside0.mk (below_step (kZ HB) hb); clear HB; have HB := n0_; clear n0_; (try clear hb); (try clear hb2); (try clear hk); (try clear hi)) | (go_at_call 29; (with_reducible refine (cantonref01_Right.calls k a1 false _ A7.out).mono ?_); rintro e w46 ⟨rfl, hb⟩; have n0_ := Aside0.mk (below_step (kZ HB) hb); clear HB; have HB := n0_; clear n0_; (try clear hb); (try clear hb2); (try clear hk); (try clear hi)))
   go_ret2
   exact ⟨_, by first | rfl | (simp [errW_none, errW_some] <;> rfl) | (simp [*, errW_none, errW_some] <;> rfl), by first | exact Kd.R_nil _ _ _ _ _ | exact Kd.N_nil _ _ _ _ _ | exact Kd.V_nil _ _ _ _ _ | exact Kd.Q_nil _ _ _ _ _ | exact Kd.S_nil _ _ _ _ _, kZ HB⟩
 ·replace c6 := Bool.eq_false_iff.mpr c6
  subst c6
  have H1 : (some (([] : List (S45)), false)) = some (r1, r2) := by rw [if_neg (show ¬ (false = true) by decide)] at H; exact H
  clear H
  have H := H1
  clear H1
  simp only [Option.some.injEq, Prod.mk.injEq] at H
  obtain ⟨rfl, rfl⟩ := H
  go_enter Try.func14, Try.ntmps14
  go_wp2_with (first | ((with_reducible refine gate_callee (f := 33) rfl ?_); refine gL (some 11) Try.func33 #[.slice A0 l0.length c0, .string a1] rfl rfl ?_; (with_reducible refine (cantonref11_Find.calls k _ _ l0 a1 t265 _ ?side1 ?side2 A4.out).mono ?_); (case side1 => exact kC (HR0.out)); (case side2 => exact HC0.out); rintro e w' ⟨rfl, ⟨nd, rfl⟩⟩; refine ⟨_, rfl, ?_⟩) | ((with_reducible refine gate_callee (f := 18) rfl ?_); refine gL (some 13) Try.func18 #[.slice A0 l0.length c0] rfl rfl ?_; (with_reducible refine (cantonref11_Right.calls k _ _ l0 false _ ?side1 ?side2 A5.out).mono ?_); (case side1 => exact kC (HR0.out)); (case side2 => exact HC0.out); rintro e w47 ⟨rfl, hb⟩; refine ⟨_, rfl, ?_⟩; have n0_ := Aside0.mk (below_step (kZ HB) hb); clear HB; have HB := n0_; clear n0_; (try clear hb); (try clear hb2); (try clear hk); (try clear hi)))
  go_ret2
  exact ⟨_, by first | rfl | (simp [errW_none, errW_some] <;> rfl) | (simp [*, errW_none, errW_some] <;> rfl), by first | exact Kd.R_nil _ _ _ _ _ | exact Kd.N_nil _ _ _ _ _ | exact Kd.V_nil _ _ _ _ _ | exact Kd.Q_nil _ _ _ _ _ | exact Kd.S_nil _ _ _ _ _, kZ HB⟩

end Go.Proofs.Ytinjajpnbbknnaa.Q
