-- Written by a program of this session (xprint) out of the translation; over contracts proved by hand.
import Derived.Test.YtinjajpnbbknnaaQx0
import Derived.Test.YtinjajpnbbknnaaSq
import Derived.Test.YtinjajpnbbknnaaQx9
import Derived.Test.YtinjajpnbbknnaaQx14b
namespace Go.Proofs.Ytinjajpnbbknnaa.Cut2
end Go.Proofs.Ytinjajpnbbknnaa.Cut2
namespace Go.Proofs.Ytinjajpnbbknnaa.RPut
end Go.Proofs.Ytinjajpnbbknnaa.RPut
namespace Go.Proofs.Ytinjajpnbbknnaa.Split
end Go.Proofs.Ytinjajpnbbknnaa.Split
namespace Go.Proofs.Ytinjajpnbbknnaa.Q
open Go.Proofs.Ytinjajpnbbknnaa.Cut2 Go.Proofs.Ytinjajpnbbknnaa.RPut Go.Proofs.Ytinjajpnbbknnaa.Split
set_option linter.unnecessarySimpa false
open Go.RowKit Go.Proofs.YtinjajpnbbknnaaW.PrintWords Go.Proofs.YtinjajpnbbknnaaW.PrintLast Go.Proofs.YtinjajpnbbknnaaW.PrintMore
attribute [local go_sem] max2_int min2_int max_two min_two max_three min_three max_four min_four   -- for this text's walks alone
set_option linter.unusedVariables false
set_option linter.unusedSimpArgs false

/-! ### cantonlaw07_Great: function 24 -/
def cantonlaw07_Great.l0 : Nat → Int → Int → List (S40) → List (S59) → Option (Bool)
  | 0, _, _, _, _ => none
  | k + 1, x3, x4, x330000, x330001 => if x4 < (x330001.length : Int) then (if x3 < 3000 then (if 0 ≤ x4 then (cantonlaw07_Great.l0 k (wrap64 (x3 + (mn (((rd_T59 x330001 x4).f0).size : Int) 3000))) (wrap64 (x4 + 1)) x330000 x330001) else (none)) else (if x3 ≥ 3000 then (some true) else ((cantonlaw06_Great.f k x330000).bind fun t331 => (some t331)))) else (if x3 ≥ 3000 then (some true) else ((cantonlaw06_Great.f k x330000).bind fun t332 => (some t332)))
def cantonlaw07_Great.f (k : Nat) (l0_0 : List (S40)) (l0_1 : List (S59)) : Option (Bool) := cantonlaw07_Great.l0 k (l0_1.length : Int) 0 l0_0 l0_1
theorem cantonlaw07_Great.mono_l : ∀ k, (∀ y0 y1 y2 y3, LeO (cantonlaw07_Great.l0 k y0 y1 y2 y3) (cantonlaw07_Great.l0 (k + 1) y0 y1 y2 y3))
  | 0 => fun _ _ _ _ r h => by simp [cantonlaw07_Great.l0] at h
  | k + 1 => by
    have ih0 := cantonlaw07_Great.mono_l k
    · intro y0 y1 y2 y3
      unfold cantonlaw07_Great.l0
      repeat' first
      | (with_reducible exact ih0 _ _ _ _)
      | (with_reducible exact cantonlaw06_Great.mono _ _)
      | (with_reducible exact LeO.refl _)
      | (with_reducible exact LeO.none _)
      | (with_reducible refine LeO.ite ?_ ?_)
      | (with_reducible refine LeO.bind ?_ (fun _ => ?_))
      | exact ih0 _ _ _ _
      | exact cantonlaw06_Great.mono _ _
      | exact LeO.none _
      | refine LeO.ite ?_ ?_
      | refine LeO.bind ?_ (fun _ => ?_)
theorem cantonlaw07_Great.mono : ∀ a0 a1 k, LeO (cantonlaw07_Great.f k a0 a1) (cantonlaw07_Great.f (k + 1) a0 a1) := by
  intro a0 a1 k
  have ih0 := cantonlaw07_Great.mono_l k
  unfold cantonlaw07_Great.f
  repeat' first
      | (with_reducible exact ih0 _ _ _ _)
      | (with_reducible exact cantonlaw06_Great.mono _ _)
      | (with_reducible exact LeO.refl _)
      | (with_reducible exact LeO.none _)
      | (with_reducible refine LeO.ite ?_ ?_)
      | (with_reducible refine LeO.bind ?_ (fun _ => ?_))
      | exact ih0 _ _ _ _
      | exact cantonlaw06_Great.mono _ _
      | exact LeO.none _
      | refine LeO.ite ?_ ?_
      | refine LeO.bind ?_ (fun _ => ?_)
set_option maxHeartbeats 8000000 in
set_option maxRecDepth 100000 in
theorem cantonlaw07_Great.calls (k : Nat) (A0_0 : Option Addr) (c0_0 : Nat) (l0_0 : List (S40)) (A0_1 : Option Addr) (c0_1 : Nat) (l0_1 : List (S59)) (r : Bool) (w : World) (hr0_0 : Kd.C k40 w A0_0 l0_0.length l0_0) (hc0_0 : l0_0.length ≤ c0_0) (hr0_1 : Kd.C k59 w A0_1 l0_1.length l0_1) (hc0_1 : l0_1.length ≤ c0_1) (h : cantonlaw07_Great.f k l0_0 l0_1 = some r) :
    Calls Try.prog 24 #[.agg #[.slice A0_0 l0_0.length c0_0, .slice A0_1 l0_1.length c0_1]] w fun e w' => e = .returned (.bool r) ∧ Below w.heap.size w w' := by
  have hu34 := Try.underlying34
  have HR0_0 := am_ hr0_0
  have HC0_0 := am_ hc0_0
  clear hr0_0 hc0_0
  have HR0_1 := am_ hr0_1
  have HC0_1 := am_ hc0_1
  clear hr0_1 hc0_1
  have HB := am_ (Below.refl w.heap.size w)
  have H : (cantonlaw07_Great.l0 k (l0_1.length : Int) 0 l0_0 l0_1) = some r := h
  clear h
  have H' := am_ H
  clear H
  go_enter Try.func24, Try.ntmps24
  go_wp2_with (first | ((with_reducible refine gate_dst (N := 1) rfl ?_); refine box_event ?hg (N := 1) ?hd (cs := #[.slice A0_0 l0_0.length c0_0, .slice A0_1 l0_1.length c0_1]) (t := 34) ?hr ?_; (case hd => rfl); (case hg => rfl); (case hr => first | (go_simp; done) | (go_simp; rfl)); intro gb329 hg w2 hbox hb; have n0_ := am_ (below_step (kZ HB) hb); have n1_ := am_ (hbox); have n2_ := am_ (gW hg (kZ HB)); have n3_ := am_ (gW hg (kZ HB)); clear HB; have HB := n0_; have BK329 := n1_; have GW329 := n2_; have GE329 := n3_; clear n0_ n1_ n2_ n3_; clear hb hbox hg; have hcz3_0 : w2.cell? ⟨gb329, 0, none⟩ = some (.slice A0_0 l0_0.length c0_0) := (blk_cell BK329.out 0).trans rfl; have hcz3_1 : w2.cell? ⟨gb329, 1, none⟩ = some (.slice A0_1 l0_1.length c0_1) := (blk_cell BK329.out 1).trans rfl; have hfz3_0 := blk_frozen BK329.out 0; have hfz3_1 := blk_frozen BK329.out 1))
  go_loopg [3, 4] k (fun kq v3 v4 w' => ∃ (x3_1 : Int) (x4_1 : Int), v3 = .int .i64 x3_1 ∧ v4 = .int .i64 x4_1 ∧ Aside0 (cantonlaw07_Great.l0 kq x3_1 x4_1 l0_0 l0_1 = some r) ∧ Aside0 (kq ≤ k) ∧ Aside0 (w'.heap[gb329]? = some (.cells #[(.slice A0_0 l0_0.length c0_0), (.slice A0_1 l0_1.length c0_1)] 34 (0, 0))) ∧ Aside0 (Below w.heap.size w w'))
  case atStart => exact ⟨((l0_1.length : Int)), (0), e1_, e1_, H', ⟨Nat.le_refl _⟩, ⟨kB BK329⟩, ⟨kZ HB⟩⟩
  case round =>
    clear H'
    try clear p2
    obtain ⟨x3_1, x4_1, rfl, rfl, HA, HK1, BK329, HB⟩ := hrel
    cases gk with
    | zero => exact absurd HA.out (by simp [cantonlaw07_Great.l0])
    | succ k1 =>
      have H := HA.out
      clear HA
      simp only [cantonlaw07_Great.l0] at H
      by_cases c4 : x4_1 < (l0_1.length : Int)
      rotate_left
      · rw [if_neg c4] at H
        have c4b0 : decide (x4_1 < (l0_1.length : Int)) = false := decide_eq_false c4
        clear c4
        by_cases c14 : x3_1 ≥ 3000
        rotate_left
        · rw [if_neg c14] at H
          have c14b0 : decide (3000 ≤ x3_1) = false := decide_eq_false c14
          clear c14
          replace H := Option.bind_eq_some_iff.mp H
          obtain ⟨t332, A160, H⟩ := H
          replace H : (some t332) = some r := H
          have A16 := am_ A160
          clear A160
          obtain rfl := Option.some.inj H
          have hcz17_0 : wr.cell? ⟨gb329, 0, none⟩ = some (.slice A0_0 l0_0.length c0_0) := (blk_cell BK329.out 0).trans rfl
          have hcz17_1 : wr.cell? ⟨gb329, 1, none⟩ = some (.slice A0_1 l0_1.length c0_1) := (blk_cell BK329.out 1).trans rfl
          have hfz17_0 := blk_frozen BK329.out 0
          have hfz17_1 := blk_frozen BK329.out 1
          go_wp2_with (first | (go_at_call 38; (with_reducible refine (cantonlaw06_Great.calls k1 _ _ l0_0 t332 _ ?side1 ?side2 A16.out).mono ?_); (case side1 => exact kC ((Kd.C_below HR0_0.out HB.out))); (case side2 => exact HC0_0.out); rintro e w18 ⟨rfl, hb⟩; have n0_ := am_ (blk_below (kB BK329) hb); have n1_ := am_ (below_step (kZ HB) hb); clear BK329; clear HB; have BK329 := n0_; have HB := n1_; clear n0_ n1_; (try clear hb); (try clear hb2); (try clear hk); (try clear hi)))
          go_ret
          exact ⟨e2_, kZ HB⟩

        rw [if_pos c14] at H
        have c14b0 : decide (3000 ≤ x3_1) = true := decide_eq_true c14
        clear c14
        obtain rfl := Option.some.inj H
        have hcz15_0 : wr.cell? ⟨gb329, 0, none⟩ = some (.slice A0_0 l0_0.length c0_0) := (blk_cell BK329.out 0).trans rfl
        have hcz15_1 : wr.cell? ⟨gb329, 1, none⟩ = some (.slice A0_1 l0_1.length c0_1) := (blk_cell BK329.out 1).trans rfl
        have hfz15_0 := blk_frozen BK329.out 0
        have hfz15_1 := blk_frozen BK329.out 1
        go_wp2
        go_ret
        exact ⟨e2_, kZ HB⟩
      rw [if_pos c4] at H
      have c4b0 : decide (x4_1 < (l0_1.length : Int)) = true := decide_eq_true c4
      clear c4
      by_cases c5 : x3_1 < 3000
      rotate_left
      · rw [if_neg c5] at H
        have c5b0 : decide (x3_1 < 3000) = false := decide_eq_false c5
        clear c5
        by_cases c9 : x3_1 ≥ 3000
        rotate_left
        · rw [if_neg c9] at H
          have c9b0 : decide (3000 ≤ x3_1) = false := decide_eq_false c9
          clear c9
          replace H := Option.bind_eq_some_iff.mp H
          obtain ⟨t331, A110, H⟩ := H
          replace H : (some t331) = some r := H
          have A11 := am_ A110
          clear A110
          obtain rfl := Option.some.inj H
          have hcz12_0 : wr.cell? ⟨gb329, 0, none⟩ = some (.slice A0_0 l0_0.length c0_0) := (blk_cell BK329.out 0).trans rfl
          have hcz12_1 : wr.cell? ⟨gb329, 1, none⟩ = some (.slice A0_1 l0_1.length c0_1) := (blk_cell BK329.out 1).trans rfl
          have hfz12_0 := blk_frozen BK329.out 0
          have hfz12_1 := blk_frozen BK329.out 1
          go_wp2_with (first | (go_at_call 38; (with_reducible refine (cantonlaw06_Great.calls k1 _ _ l0_0 t331 _ ?side1 ?side2 A11.out).mono ?_); (case side1 => exact kC ((Kd.C_below HR0_0.out HB.out))); (case side2 => exact HC0_0.out); rintro e w13 ⟨rfl, hb⟩; have n0_ := am_ (blk_below (kB BK329) hb); have n1_ := am_ (below_step (kZ HB) hb); clear BK329; clear HB; have BK329 := n0_; have HB := n1_; clear n0_ n1_; (try clear hb); (try clear hb2); (try clear hk); (try clear hi)))
          go_ret
          exact ⟨e2_, kZ HB⟩
        rw [if_pos c9] at H
        have c9b0 : decide (3000 ≤ x3_1) = true := decide_eq_true c9
        clear c9
        obtain rfl := Option.some.inj H
        have hcz10_0 : wr.cell? ⟨gb329, 0, none⟩ = some (.slice A0_0 l0_0.length c0_0) := (blk_cell BK329.out 0).trans rfl
        have hcz10_1 : wr.cell? ⟨gb329, 1, none⟩ = some (.slice A0_1 l0_1.length c0_1) := (blk_cell BK329.out 1).trans rfl
        have hfz10_0 := blk_frozen BK329.out 0
        have hfz10_1 := blk_frozen BK329.out 1
        go_wp2
        go_ret
        exact ⟨e2_, kZ HB⟩
      rw [if_pos c5] at H
      have c5b0 : decide (x3_1 < 3000) = true := decide_eq_true c5
      clear c5
      by_cases c6 : 0 ≤ x4_1
      rotate_left
      · rw [if_neg c6] at H
        exact absurd H (by simp)
      rw [if_pos c6] at H
      have c6b0 : decide (0 ≤ x4_1) = true := decide_eq_true c6
      clear c6
      obtain ⟨ji7, hji7⟩ : ∃ j_ : Int, (mn (((rd_T59 l0_1 x4_1).f0).size : Int) 3000) = j_ := ⟨_, rfl⟩
      replace H : (cantonlaw07_Great.l0 k1 (wrap64 (x3_1 + (ji7))) (wrap64 (x4_1 + 1)) l0_0 l0_1) = some r := by first | (rw [hji7] at H; exact H) | (simp only [hji7] at H ⊢; exact H)
      have hji7_ : (if 3000 < (((rd_T59 l0_1 x4_1).f0).size : Int) then 3000 else (((rd_T59 l0_1 x4_1).f0).size : Int)) = ji7 := hji7
      have H' := am_ H
      clear H
      have hcz8_0 : wr.cell? ⟨gb329, 0, none⟩ = some (.slice A0_0 l0_0.length c0_0) := (blk_cell BK329.out 0).trans rfl
      have hcz8_1 : wr.cell? ⟨gb329, 1, none⟩ = some (.slice A0_1 l0_1.length c0_1) := (blk_cell BK329.out 1).trans rfl
      have hfz8_0 := blk_frozen BK329.out 0
      have hfz8_1 := blk_frozen BK329.out 1
      have p330 : 0 ≤ (x4_1 : Int) := od_
      have q330 : x4_1 < (l0_1.length : Int) := od_
      obtain ⟨ad330, e330, hx330_0, hx330_1⟩ := at_T59 HR0_1.out x4_1 p330 q330
      cases e330
      replace hx330_0 := pw_cell_below HB.out hx330_0
      replace hx330_1 := pw_cell_below HB.out hx330_1
      replace p330 := eq_true p330
      replace q330 := eq_true q330
      go_wp2
      go_roundg k1
      case measure => have := HK1.out; omega
      case rel => exact ⟨(wrap64 (x3_1 + (ji7))), (wrap64 (x4_1 + 1)), (by first | rfl | (simp; done) | (simp only [← hji7] <;> (first | rfl | simp)) | (simp [*]; done)), e1_, H', ⟨by have := HK1.out; omega⟩, ⟨kB BK329⟩, ⟨kZ HB⟩⟩
/-! ### cantonref07_node: function 48 -/
def cantonref07_node.f (k : Nat) (a0_0 : ByteArray) (a0_1 : ByteArray) (a0_2 : Int) (a0_3 : Int) (a0_4 : Int) : Option (Bool) := (cantonref01_Right.f k a0_0).bind fun t334 => (if t334 = true then (if (a0_1.size : Int) ≤ 256 then (if a0_2 ≥ 0 then (if a0_2 ≤ 281474976710656 then (if a0_4 ≥ 0 then (if a0_4 ≤ 1099511627776 then (some (a0_3 == 0)) else (some false)) else (some false)) else (some false)) else (some false)) else (some false)) else (some false))
theorem cantonref07_node.mono : ∀ a0 a1 a2 a3 a4 k, LeO (cantonref07_node.f k a0 a1 a2 a3 a4) (cantonref07_node.f (k + 1) a0 a1 a2 a3 a4) := by
  intro a0 a1 a2 a3 a4 k
  unfold cantonref07_node.f
  repeat' first
      | (with_reducible exact cantonref01_Right.mono _ _)
      | (with_reducible exact LeO.refl _)
      | (with_reducible exact LeO.none _)
      | (with_reducible refine LeO.ite ?_ ?_)
      | (with_reducible refine LeO.bind ?_ (fun _ => ?_))
      | exact cantonref01_Right.mono _ _
      | exact LeO.none _
      | refine LeO.ite ?_ ?_
      | refine LeO.bind ?_ (fun _ => ?_)
set_option maxHeartbeats 8000000 in
set_option maxRecDepth 100000 in
theorem cantonref07_node.calls (k : Nat) (a0_0 : ByteArray) (a0_1 : ByteArray) (a0_2 : Int) (a0_3 : Int) (a0_4 : Int) (r : Bool) (w : World) (h : cantonref07_node.f k a0_0 a0_1 a0_2 a0_3 a0_4 = some r) :
    Calls Try.prog 48 #[.agg #[.string a0_0, .string a0_1, .int .i64 a0_2, .int .i64 a0_3, .int .i64 a0_4]] w fun e w' => e = .returned (.bool r) ∧ Below w.heap.size w w' := by
  have hu40 := Try.underlying40
  have HB := am_ (Below.refl w.heap.size w)
  have H : ((cantonref01_Right.f k a0_0).bind fun t334 => (if t334 = true then (if (a0_1.size : Int) ≤ 256 then (if a0_2 ≥ 0 then (if a0_2 ≤ 281474976710656 then (if a0_4 ≥ 0 then (if a0_4 ≤ 1099511627776 then (some (a0_3 == 0)) else (some false)) else (some false)) else (some false)) else (some false)) else (some false)) else (some false))) = some r := h
  clear h
  replace H := Option.bind_eq_some_iff.mp H
  obtain ⟨t334, A20, H⟩ := H
  replace H : (if t334 = true then (if (a0_1.size : Int) ≤ 256 then (if a0_2 ≥ 0 then (if a0_2 ≤ 281474976710656 then (if a0_4 ≥ 0 then (if a0_4 ≤ 1099511627776 then (some (a0_3 == 0)) else (some false)) else (some false)) else (some false)) else (some false)) else (some false)) else (some false)) = some r := H
  have A2 := am_ A20
  clear A20
  by_cases c3 : t334 = true
  rotate_left
  · replace c3 := Bool.eq_false_iff.mpr c3
    subst c3
    have H1 : (some false) = some r := by rw [if_neg (show ¬ (false = true) by decide)] at H; exact H
    clear H
    have H := H1
    clear H1
    obtain rfl := Option.some.inj H
    go_enter Try.func48, Try.ntmps48
    go_wp2_with (first | ((with_reducible refine gate_dst (N := 1) rfl ?_); (try (refine gate_guard (by rfl) ?_; dsimp only)); refine box_event ?hg (N := 1) ?hd (cs := #[.string a0_0, .string a0_1, .int .i64 a0_2, .int .i64 a0_3, .int .i64 a0_4]) (t := 40) ?hr ?_; (case hd => rfl); (case hg => rfl); (case hr => first | (go_simp; done) | (go_simp; rfl)); intro gb333 hg w33 hbox hb; have n0_ := am_ (below_step (kZ HB) hb); have n1_ := am_ (hbox); have n2_ := am_ (gW hg (kZ HB)); have n3_ := am_ (gW hg (kZ HB)); clear HB; have HB := n0_; have BK333 := n1_; have GW333 := n2_; have GE333 := n3_; clear n0_ n1_ n2_ n3_; clear hb hbox hg; have hcz34_0 : w33.cell? ⟨gb333, 0, none⟩ = some (.string a0_0) := (blk_cell BK333.out 0).trans rfl; have hcz34_1 : w33.cell? ⟨gb333, 1, none⟩ = some (.string a0_1) := (blk_cell BK333.out 1).trans rfl; have hcz34_2 : w33.cell? ⟨gb333, 2, none⟩ = some (.int .i64 a0_2) := (blk_cell BK333.out 2).trans rfl; have hcz34_3 : w33.cell? ⟨gb333, 3, none⟩ = some (.int .i64 a0_3) := (blk_cell BK333.out 3).trans rfl; have hcz34_4 : w33.cell? ⟨gb333, 4, none⟩ = some (.int .i64 a0_4) := (blk_cell BK333.out 4).trans rfl; have hfz34_0 := blk_frozen BK333.out 0; have hfz34_1 := blk_frozen BK333.out 1; have hfz34_2 := blk_frozen BK333.out 2; have hfz34_3 := blk_frozen BK333.out 3; have hfz34_4 := blk_frozen BK333.out 4) | ((with_reducible refine gate_callee (f := 29) rfl ?_); refine gL (some 5) Try.func29 #[.string a0_0] rfl rfl ?_; (with_reducible refine (cantonref01_Right.calls k a0_0 false _ A2.out).mono ?_); rintro e w35 ⟨rfl, hb⟩; refine ⟨_, rfl, ?_⟩; have n0_ := am_ (blk_below (kB BK333) hb); have n1_ := am_ (below_step (kZ HB) hb); clear BK333; clear HB; have BK333 := n0_; have HB := n1_; clear n0_ n1_; (try clear hb); (try clear hb2); (try clear hk); (try clear hi)))
    go_ret
    exact ⟨e2_, kZ HB⟩

  subst c3
  have H1 : (if (a0_1.size : Int) ≤ 256 then (if a0_2 ≥ 0 then (if a0_2 ≤ 281474976710656 then (if a0_4 ≥ 0 then (if a0_4 ≤ 1099511627776 then (some (a0_3 == 0)) else (some false)) else (some false)) else (some false)) else (some false)) else (some false)) = some r := by rw [if_pos rfl] at H; exact H
  clear H
  have H := H1
  clear H1
  by_cases c4 : (a0_1.size : Int) ≤ 256
  rotate_left
  · rw [if_neg c4] at H
    have c4b0 : decide ((a0_1.size : Int) ≤ 256) = false := decide_eq_false c4
    have c4b1 : decide (a0_1.size ≤ 256) = false := decide_eq_false (by omega)
    clear c4
    obtain rfl := Option.some.inj H
    go_enter Try.func48, Try.ntmps48
    go_wp2_with (first | ((with_reducible refine gate_dst (N := 1) rfl ?_); (try (refine gate_guard (by rfl) ?_; dsimp only)); refine box_event ?hg (N := 1) ?hd (cs := #[.string a0_0, .string a0_1, .int .i64 a0_2, .int .i64 a0_3, .int .i64 a0_4]) (t := 40) ?hr ?_; (case hd => rfl); (case hg => rfl); (case hr => first | (go_simp; done) | (go_simp; rfl)); intro gb333 hg w29 hbox hb; have n0_ := am_ (below_step (kZ HB) hb); have n1_ := am_ (hbox); have n2_ := am_ (gW hg (kZ HB)); have n3_ := am_ (gW hg (kZ HB)); clear HB; have HB := n0_; have BK333 := n1_; have GW333 := n2_; have GE333 := n3_; clear n0_ n1_ n2_ n3_; clear hb hbox hg; have hcz30_0 : w29.cell? ⟨gb333, 0, none⟩ = some (.string a0_0) := (blk_cell BK333.out 0).trans rfl; have hcz30_1 : w29.cell? ⟨gb333, 1, none⟩ = some (.string a0_1) := (blk_cell BK333.out 1).trans rfl; have hcz30_2 : w29.cell? ⟨gb333, 2, none⟩ = some (.int .i64 a0_2) := (blk_cell BK333.out 2).trans rfl; have hcz30_3 : w29.cell? ⟨gb333, 3, none⟩ = some (.int .i64 a0_3) := (blk_cell BK333.out 3).trans rfl; have hcz30_4 : w29.cell? ⟨gb333, 4, none⟩ = some (.int .i64 a0_4) := (blk_cell BK333.out 4).trans rfl; have hfz30_0 := blk_frozen BK333.out 0; have hfz30_1 := blk_frozen BK333.out 1; have hfz30_2 := blk_frozen BK333.out 2; have hfz30_3 := blk_frozen BK333.out 3; have hfz30_4 := blk_frozen BK333.out 4) | ((with_reducible refine gate_callee (f := 29) rfl ?_); refine gL (some 5) Try.func29 #[.string a0_0] rfl rfl ?_; (with_reducible refine (cantonref01_Right.calls k a0_0 true _ A2.out).mono ?_); rintro e w31 ⟨rfl, hb⟩; refine ⟨_, rfl, ?_⟩; have n0_ := am_ (blk_below (kB BK333) hb); have n1_ := am_ (below_step (kZ HB) hb); clear BK333; clear HB; have BK333 := n0_; have HB := n1_; clear n0_ n1_; (try clear hb); (try clear hb2); (try clear hk); (try clear hi); have hcz32_0 : w31.cell? ⟨gb333, 0, none⟩ = some (.string a0_0) := (blk_cell BK333.out 0).trans rfl; have hcz32_1 : w31.cell? ⟨gb333, 1, none⟩ = some (.string a0_1) := (blk_cell BK333.out 1).trans rfl; have hcz32_2 : w31.cell? ⟨gb333, 2, none⟩ = some (.int .i64 a0_2) := (blk_cell BK333.out 2).trans rfl; have hcz32_3 : w31.cell? ⟨gb333, 3, none⟩ = some (.int .i64 a0_3) := (blk_cell BK333.out 3).trans rfl; have hcz32_4 : w31.cell? ⟨gb333, 4, none⟩ = some (.int .i64 a0_4) := (blk_cell BK333.out 4).trans rfl; have hfz32_0 := blk_frozen BK333.out 0; have hfz32_1 := blk_frozen BK333.out 1; have hfz32_2 := blk_frozen BK333.out 2; have hfz32_3 := blk_frozen BK333.out 3; have hfz32_4 := blk_frozen BK333.out 4))
    go_ret
    exact ⟨e2_, kZ HB⟩
  rw [if_pos c4] at H
  have c4b0 : decide ((a0_1.size : Int) ≤ 256) = true := decide_eq_true c4
  have c4b1 : decide (a0_1.size ≤ 256) = true := decide_eq_true (by omega)
  clear c4
  by_cases c5 : a0_2 ≥ 0
  rotate_left
  · rw [if_neg c5] at H
    have c5b0 : decide (0 ≤ a0_2) = false := decide_eq_false c5
    clear c5
    obtain rfl := Option.some.inj H
    go_enter Try.func48, Try.ntmps48
    go_wp2_with (first | ((with_reducible refine gate_dst (N := 1) rfl ?_); (try (refine gate_guard (by rfl) ?_; dsimp only)); refine box_event ?hg (N := 1) ?hd (cs := #[.string a0_0, .string a0_1, .int .i64 a0_2, .int .i64 a0_3, .int .i64 a0_4]) (t := 40) ?hr ?_; (case hd => rfl); (case hg => rfl); (case hr => first | (go_simp; done) | (go_simp; rfl)); intro gb333 hg w25 hbox hb; have n0_ := am_ (below_step (kZ HB) hb); have n1_ := am_ (hbox); have n2_ := am_ (gW hg (kZ HB)); have n3_ := am_ (gW hg (kZ HB)); clear HB; have HB := n0_; have BK333 := n1_; have GW333 := n2_; have GE333 := n3_; clear n0_ n1_ n2_ n3_; clear hb hbox hg; have hcz26_0 : w25.cell? ⟨gb333, 0, none⟩ = some (.string a0_0) := (blk_cell BK333.out 0).trans rfl; have hcz26_1 : w25.cell? ⟨gb333, 1, none⟩ = some (.string a0_1) := (blk_cell BK333.out 1).trans rfl; have hcz26_2 : w25.cell? ⟨gb333, 2, none⟩ = some (.int .i64 a0_2) := (blk_cell BK333.out 2).trans rfl; have hcz26_3 : w25.cell? ⟨gb333, 3, none⟩ = some (.int .i64 a0_3) := (blk_cell BK333.out 3).trans rfl; have hcz26_4 : w25.cell? ⟨gb333, 4, none⟩ = some (.int .i64 a0_4) := (blk_cell BK333.out 4).trans rfl; have hfz26_0 := blk_frozen BK333.out 0; have hfz26_1 := blk_frozen BK333.out 1; have hfz26_2 := blk_frozen BK333.out 2; have hfz26_3 := blk_frozen BK333.out 3; have hfz26_4 := blk_frozen BK333.out 4) | ((with_reducible refine gate_callee (f := 29) rfl ?_); refine gL (some 5) Try.func29 #[.string a0_0] rfl rfl ?_; (with_reducible refine (cantonref01_Right.calls k a0_0 true _ A2.out).mono ?_); rintro e w27 ⟨rfl, hb⟩; refine ⟨_, rfl, ?_⟩; have n0_ := am_ (blk_below (kB BK333) hb); have n1_ := am_ (below_step (kZ HB) hb); clear BK333; clear HB; have BK333 := n0_; have HB := n1_; clear n0_ n1_; (try clear hb); (try clear hb2); (try clear hk); (try clear hi); have hcz28_0 : w27.cell? ⟨gb333, 0, none⟩ = some (.string a0_0) := (blk_cell BK333.out 0).trans rfl; have hcz28_1 : w27.cell? ⟨gb333, 1, none⟩ = some (.string a0_1) := (blk_cell BK333.out 1).trans rfl; have hcz28_2 : w27.cell? ⟨gb333, 2, none⟩ = some (.int .i64 a0_2) := (blk_cell BK333.out 2).trans rfl; have hcz28_3 : w27.cell? ⟨gb333, 3, none⟩ = some (.int .i64 a0_3) := (blk_cell BK333.out 3).trans rfl; have hcz28_4 : w27.cell? ⟨gb333, 4, none⟩ = some (.int .i64 a0_4) := (blk_cell BK333.out 4).trans rfl; have hfz28_0 := blk_frozen BK333.out 0; have hfz28_1 := blk_frozen BK333.out 1; have hfz28_2 := blk_frozen BK333.out 2; have hfz28_3 := blk_frozen BK333.out 3; have hfz28_4 := blk_frozen BK333.out 4))
    go_ret
    exact ⟨e2_, kZ HB⟩
  rw [if_pos c5] at H
  have c5b0 : decide (0 ≤ a0_2) = true := decide_eq_true c5
  clear c5
  by_cases c6 : a0_2 ≤ 281474976710656
  rotate_left
  · rw [if_neg c6] at H
    have c6b0 : decide (a0_2 ≤ 281474976710656) = false := decide_eq_false c6
    clear c6
    obtain rfl := Option.some.inj H
    go_enter Try.func48, Try.ntmps48
    go_wp2_with (first | ((with_reducible refine gate_dst (N := 1) rfl ?_); (try (refine gate_guard (by rfl) ?_; dsimp only)); refine box_event ?hg (N := 1) ?hd (cs := #[.string a0_0, .string a0_1, .int .i64 a0_2, .int .i64 a0_3, .int .i64 a0_4]) (t := 40) ?hr ?_; (case hd => rfl); (case hg => rfl); (case hr => first | (go_simp; done) | (go_simp; rfl)); intro gb333 hg w21 hbox hb; have n0_ := am_ (below_step (kZ HB) hb); have n1_ := am_ (hbox); have n2_ := am_ (gW hg (kZ HB)); have n3_ := am_ (gW hg (kZ HB)); clear HB; have HB := n0_; have BK333 := n1_; have GW333 := n2_; have GE333 := n3_; clear n0_ n1_ n2_ n3_; clear hb hbox hg; have hcz22_0 : w21.cell? ⟨gb333, 0, none⟩ = some (.string a0_0) := (blk_cell BK333.out 0).trans rfl; have hcz22_1 : w21.cell? ⟨gb333, 1, none⟩ = some (.string a0_1) := (blk_cell BK333.out 1).trans rfl; have hcz22_2 : w21.cell? ⟨gb333, 2, none⟩ = some (.int .i64 a0_2) := (blk_cell BK333.out 2).trans rfl; have hcz22_3 : w21.cell? ⟨gb333, 3, none⟩ = some (.int .i64 a0_3) := (blk_cell BK333.out 3).trans rfl; have hcz22_4 : w21.cell? ⟨gb333, 4, none⟩ = some (.int .i64 a0_4) := (blk_cell BK333.out 4).trans rfl; have hfz22_0 := blk_frozen BK333.out 0; have hfz22_1 := blk_frozen BK333.out 1; have hfz22_2 := blk_frozen BK333.out 2; have hfz22_3 := blk_frozen BK333.out 3; have hfz22_4 := blk_frozen BK333.out 4) | ((with_reducible refine gate_callee (f := 29) rfl ?_); refine gL (some 5) Try.func29 #[.string a0_0] rfl rfl ?_; (with_reducible refine (cantonref01_Right.calls k a0_0 true _ A2.out).mono ?_); rintro e w23 ⟨rfl, hb⟩; refine ⟨_, rfl, ?_⟩; have n0_ := am_ (blk_below (kB BK333) hb); have n1_ := am_ (below_step (kZ HB) hb); clear BK333; clear HB; have BK333 := n0_; have HB := n1_; clear n0_ n1_; (try clear hb); (try clear hb2); (try clear hk); (try clear hi); have hcz24_0 : w23.cell? ⟨gb333, 0, none⟩ = some (.string a0_0) := (blk_cell BK333.out 0).trans rfl; have hcz24_1 : w23.cell? ⟨gb333, 1, none⟩ = some (.string a0_1) := (blk_cell BK333.out 1).trans rfl; have hcz24_2 : w23.cell? ⟨gb333, 2, none⟩ = some (.int .i64 a0_2) := (blk_cell BK333.out 2).trans rfl; have hcz24_3 : w23.cell? ⟨gb333, 3, none⟩ = some (.int .i64 a0_3) := (blk_cell BK333.out 3).trans rfl; have hcz24_4 : w23.cell? ⟨gb333, 4, none⟩ = some (.int .i64 a0_4) := (blk_cell BK333.out 4).trans rfl; have hfz24_0 := blk_frozen BK333.out 0; have hfz24_1 := blk_frozen BK333.out 1; have hfz24_2 := blk_frozen BK333.out 2; have hfz24_3 := blk_frozen BK333.out 3; have hfz24_4 := blk_frozen BK333.out 4))
    go_ret
    exact ⟨e2_, kZ HB⟩
  rw [if_pos c6] at H
  have c6b0 : decide (a0_2 ≤ 281474976710656) = true := decide_eq_true c6
  clear c6
  by_cases c7 : a0_4 ≥ 0
  rotate_left
  · rw [if_neg c7] at H
    have c7b0 : decide (0 ≤ a0_4) = false := decide_eq_false c7
    clear c7
    obtain rfl := Option.some.inj H
    go_enter Try.func48, Try.ntmps48
    go_wp2_with (first | ((with_reducible refine gate_dst (N := 1) rfl ?_); (try (refine gate_guard (by rfl) ?_; dsimp only)); refine box_event ?hg (N := 1) ?hd (cs := #[.string a0_0, .string a0_1, .int .i64 a0_2, .int .i64 a0_3, .int .i64 a0_4]) (t := 40) ?hr ?_; (case hd => rfl); (case hg => rfl); (case hr => first | (go_simp; done) | (go_simp; rfl)); intro gb333 hg w17 hbox hb; have n0_ := am_ (below_step (kZ HB) hb); have n1_ := am_ (hbox); have n2_ := am_ (gW hg (kZ HB)); have n3_ := am_ (gW hg (kZ HB)); clear HB; have HB := n0_; have BK333 := n1_; have GW333 := n2_; have GE333 := n3_; clear n0_ n1_ n2_ n3_; clear hb hbox hg; have hcz18_0 : w17.cell? ⟨gb333, 0, none⟩ = some (.string a0_0) := (blk_cell BK333.out 0).trans rfl; have hcz18_1 : w17.cell? ⟨gb333, 1, none⟩ = some (.string a0_1) := (blk_cell BK333.out 1).trans rfl; have hcz18_2 : w17.cell? ⟨gb333, 2, none⟩ = some (.int .i64 a0_2) := (blk_cell BK333.out 2).trans rfl; have hcz18_3 : w17.cell? ⟨gb333, 3, none⟩ = some (.int .i64 a0_3) := (blk_cell BK333.out 3).trans rfl; have hcz18_4 : w17.cell? ⟨gb333, 4, none⟩ = some (.int .i64 a0_4) := (blk_cell BK333.out 4).trans rfl; have hfz18_0 := blk_frozen BK333.out 0; have hfz18_1 := blk_frozen BK333.out 1; have hfz18_2 := blk_frozen BK333.out 2; have hfz18_3 := blk_frozen BK333.out 3; have hfz18_4 := blk_frozen BK333.out 4) | ((with_reducible refine gate_callee (f := 29) rfl ?_); refine gL (some 5) Try.func29 #[.string a0_0] rfl rfl ?_; (with_reducible refine (cantonref01_Right.calls k a0_0 true _ A2.out).mono ?_); rintro e w19 ⟨rfl, hb⟩; refine ⟨_, rfl, ?_⟩; have n0_ := am_ (blk_below (kB BK333) hb); have n1_ := am_ (below_step (kZ HB) hb); clear BK333; clear HB; have BK333 := n0_; have HB := n1_; clear n0_ n1_; (try clear hb); (try clear hb2); (try clear hk); (try clear hi); have hcz20_0 : w19.cell? ⟨gb333, 0, none⟩ = some (.string a0_0) := (blk_cell BK333.out 0).trans rfl; have hcz20_1 : w19.cell? ⟨gb333, 1, none⟩ = some (.string a0_1) := (blk_cell BK333.out 1).trans rfl; have hcz20_2 : w19.cell? ⟨gb333, 2, none⟩ = some (.int .i64 a0_2) := (blk_cell BK333.out 2).trans rfl; have hcz20_3 : w19.cell? ⟨gb333, 3, none⟩ = some (.int .i64 a0_3) := (blk_cell BK333.out 3).trans rfl; have hcz20_4 : w19.cell? ⟨gb333, 4, none⟩ = some (.int .i64 a0_4) := (blk_cell BK333.out 4).trans rfl; have hfz20_0 := blk_frozen BK333.out 0; have hfz20_1 := blk_frozen BK333.out 1; have hfz20_2 := blk_frozen BK333.out 2; have hfz20_3 := blk_frozen BK333.out 3; have hfz20_4 := blk_frozen BK333.out 4))
    go_ret
    exact ⟨e2_, kZ HB⟩
  rw [if_pos c7] at H
  have c7b0 : decide (0 ≤ a0_4) = true := decide_eq_true c7
  clear c7
  by_cases c8 : a0_4 ≤ 1099511627776
  rotate_left
  · rw [if_neg c8] at H
    have c8b0 : decide (a0_4 ≤ 1099511627776) = false := decide_eq_false c8
    clear c8
    obtain rfl := Option.some.inj H
    go_enter Try.func48, Try.ntmps48
    go_wp2_with (first | ((with_reducible refine gate_dst (N := 1) rfl ?_); (try (refine gate_guard (by rfl) ?_; dsimp only)); refine box_event ?hg (N := 1) ?hd (cs := #[.string a0_0, .string a0_1, .int .i64 a0_2, .int .i64 a0_3, .int .i64 a0_4]) (t := 40) ?hr ?_; (case hd => rfl); (case hg => rfl); (case hr => first | (go_simp; done) | (go_simp; rfl)); intro gb333 hg w13 hbox hb; have n0_ := am_ (below_step (kZ HB) hb); have n1_ := am_ (hbox); have n2_ := am_ (gW hg (kZ HB)); have n3_ := am_ (gW hg (kZ HB)); clear HB; have HB := n0_; have BK333 := n1_; have GW333 := n2_; have GE333 := n3_; clear n0_ n1_ n2_ n3_; clear hb hbox hg; have hcz14_0 : w13.cell? ⟨gb333, 0, none⟩ = some (.string a0_0) := (blk_cell BK333.out 0).trans rfl; have hcz14_1 : w13.cell? ⟨gb333, 1, none⟩ = some (.string a0_1) := (blk_cell BK333.out 1).trans rfl; have hcz14_2 : w13.cell? ⟨gb333, 2, none⟩ = some (.int .i64 a0_2) := (blk_cell BK333.out 2).trans rfl; have hcz14_3 : w13.cell? ⟨gb333, 3, none⟩ = some (.int .i64 a0_3) := (blk_cell BK333.out 3).trans rfl; have hcz14_4 : w13.cell? ⟨gb333, 4, none⟩ = some (.int .i64 a0_4) := (blk_cell BK333.out 4).trans rfl; have hfz14_0 := blk_frozen BK333.out 0; have hfz14_1 := blk_frozen BK333.out 1; have hfz14_2 := blk_frozen BK333.out 2; have hfz14_3 := blk_frozen BK333.out 3; have hfz14_4 := blk_frozen BK333.out 4) | ((with_reducible refine gate_callee (f := 29) rfl ?_); refine gL (some 5) Try.func29 #[.string a0_0] rfl rfl ?_; (with_reducible refine (cantonref01_Right.calls k a0_0 true _ A2.out).mono ?_); rintro e w15 ⟨rfl, hb⟩; refine ⟨_, rfl, ?_⟩; have n0_ := am_ (blk_below (kB BK333) hb); have n1_ := am_ (below_step (kZ HB) hb); clear BK333; clear HB; have BK333 := n0_; have HB := n1_; clear n0_ n1_; (try clear hb); (try clear hb2); (try clear hk); (try clear hi); have hcz16_0 : w15.cell? ⟨gb333, 0, none⟩ = some (.string a0_0) := (blk_cell BK333.out 0).trans rfl; have hcz16_1 : w15.cell? ⟨gb333, 1, none⟩ = some (.string a0_1) := (blk_cell BK333.out 1).trans rfl; have hcz16_2 : w15.cell? ⟨gb333, 2, none⟩ = some (.int .i64 a0_2) := (blk_cell BK333.out 2).trans rfl; have hcz16_3 : w15.cell? ⟨gb333, 3, none⟩ = some (.int .i64 a0_3) := (blk_cell BK333.out 3).trans rfl; have hcz16_4 : w15.cell? ⟨gb333, 4, none⟩ = some (.int .i64 a0_4) := (blk_cell BK333.out 4).trans rfl; have hfz16_0 := blk_frozen BK333.out 0; have hfz16_1 := blk_frozen BK333.out 1; have hfz16_2 := blk_frozen BK333.out 2; have hfz16_3 := blk_frozen BK333.out 3; have hfz16_4 := blk_frozen BK333.out 4))
    go_ret
    exact ⟨e2_, kZ HB⟩
  rw [if_pos c8] at H
  have c8b0 : decide (a0_4 ≤ 1099511627776) = true := decide_eq_true c8
  clear c8
  obtain rfl := Option.some.inj H
  go_enter Try.func48, Try.ntmps48
  go_wp2_with (first | ((with_reducible refine gate_dst (N := 1) rfl ?_); (try (refine gate_guard (by rfl) ?_; dsimp only)); refine box_event ?hg (N := 1) ?hd (cs := #[.string a0_0, .string a0_1, .int .i64 a0_2, .int .i64 a0_3, .int .i64 a0_4]) (t := 40) ?hr ?_; (case hd => rfl); (case hg => rfl); (case hr => first | (go_simp; done) | (go_simp; rfl)); intro gb333 hg w9 hbox hb; have n0_ := am_ (below_step (kZ HB) hb); have n1_ := am_ (hbox); have n2_ := am_ (gW hg (kZ HB)); have n3_ := am_ (gW hg (kZ HB)); clear HB; have HB := n0_; have BK333 := n1_; have GW333 := n2_; have GE333 := n3_; clear n0_ n1_ n2_ n3_; clear hb hbox hg; have hcz10_0 : w9.cell? ⟨gb333, 0, none⟩ = some (.string a0_0) := (blk_cell BK333.out 0).trans rfl; have hcz10_1 : w9.cell? ⟨gb333, 1, none⟩ = some (.string a0_1) := (blk_cell BK333.out 1).trans rfl; have hcz10_2 : w9.cell? ⟨gb333, 2, none⟩ = some (.int .i64 a0_2) := (blk_cell BK333.out 2).trans rfl; have hcz10_3 : w9.cell? ⟨gb333, 3, none⟩ = some (.int .i64 a0_3) := (blk_cell BK333.out 3).trans rfl; have hcz10_4 : w9.cell? ⟨gb333, 4, none⟩ = some (.int .i64 a0_4) := (blk_cell BK333.out 4).trans rfl; have hfz10_0 := blk_frozen BK333.out 0; have hfz10_1 := blk_frozen BK333.out 1; have hfz10_2 := blk_frozen BK333.out 2; have hfz10_3 := blk_frozen BK333.out 3; have hfz10_4 := blk_frozen BK333.out 4) | ((with_reducible refine gate_callee (f := 29) rfl ?_); refine gL (some 5) Try.func29 #[.string a0_0] rfl rfl ?_; (with_reducible refine (cantonref01_Right.calls k a0_0 true _ A2.out).mono ?_); rintro e w11 ⟨rfl, hb⟩; refine ⟨_, rfl, ?_⟩; have n0_ := am_ (blk_below (kB BK333) hb); have n1_ := am_ (below_step (kZ HB) hb); clear BK333; clear HB; have BK333 := n0_; have HB := n1_; clear n0_ n1_; (try clear hb); (try clear hb2); (try clear hk); (try clear hi); have hcz12_0 : w11.cell? ⟨gb333, 0, none⟩ = some (.string a0_0) := (blk_cell BK333.out 0).trans rfl; have hcz12_1 : w11.cell? ⟨gb333, 1, none⟩ = some (.string a0_1) := (blk_cell BK333.out 1).trans rfl; have hcz12_2 : w11.cell? ⟨gb333, 2, none⟩ = some (.int .i64 a0_2) := (blk_cell BK333.out 2).trans rfl; have hcz12_3 : w11.cell? ⟨gb333, 3, none⟩ = some (.int .i64 a0_3) := (blk_cell BK333.out 3).trans rfl; have hcz12_4 : w11.cell? ⟨gb333, 4, none⟩ = some (.int .i64 a0_4) := (blk_cell BK333.out 4).trans rfl; have hfz12_0 := blk_frozen BK333.out 0; have hfz12_1 := blk_frozen BK333.out 1; have hfz12_2 := blk_frozen BK333.out 2; have hfz12_3 := blk_frozen BK333.out 3; have hfz12_4 := blk_frozen BK333.out 4))
  go_ret
  exact ⟨e2_, kZ HB⟩
end Go.Proofs.Ytinjajpnbbknnaa.Q
