-- Written by a program of this session (xprint) out of the translation; over contracts proved by hand.
import Derived.Test.YtpmkegkgaalfhaaQx0
import Derived.Test.YtpmkegkgaalfhaaNew
namespace Go.Proofs.Ytpmkegkgaalfhaa.New
end Go.Proofs.Ytpmkegkgaalfhaa.New
namespace Go.Proofs.Ytpmkegkgaalfhaa.Q
open Go.Proofs.Ytpmkegkgaalfhaa.New
set_option linter.unnecessarySimpa false
open Go.RowKit Go.Proofs.YtpmkegkgaalfhaaW.PrintWords Go.Proofs.YtpmkegkgaalfhaaW.PrintLast Go.Proofs.YtpmkegkgaalfhaaW.PrintMore
attribute [local go_sem] max2_int min2_int max_two min_two max_three min_three max_four min_four   -- for this text's walks alone
set_option linter.unusedVariables false
set_option linter.unusedSimpArgs false

/-! ### check_Sum: function 10 -/
def check_Sum.l0 : Nat → Int → Int → List Int → Int → Int → Option (Int)
  | 0, _, _, _, _, _ => none
  | k + 1, x5, x6, x13, x14, x15 => if x15 < x14 then (if 0 ≤ x15 then (if x15 < (x13.length : Int) then (check_Sum.l0 k (((((x5 + ((rd x13 x15) % 4294967296)) % 4294967296) + 1) % 4294967296) % 65521) (((x6 + (((((x5 + ((rd x13 x15) % 4294967296)) % 4294967296) + 1) % 4294967296) % 65521)) % 4294967296) % 65521) x13 x14 (wrap64 (x15 + 1))) else (none)) else (none)) else (some (Go.bits .or .u32 ((x6 * 65536) % 4294967296) x5))
def check_Sum.f (k : Nat) (a0 : Int) (l1 : List Int) : Option (Int) := check_Sum.l0 k (((((a0) % 4294967296) + 1) % 4294967296) % 65521) 1 l1 (l1.length : Int) 0
theorem check_Sum.mono_l : ∀ k, (∀ y0 y1 y2 y3 y4, LeO (check_Sum.l0 k y0 y1 y2 y3 y4) (check_Sum.l0 (k + 1) y0 y1 y2 y3 y4))
  | 0 => fun _ _ _ _ _ r h => by simp [check_Sum.l0] at h
  | k + 1 => by
    have ih0 := check_Sum.mono_l k
    · intro y0 y1 y2 y3 y4
      unfold check_Sum.l0
      repeat' first
      | (with_reducible exact ih0 _ _ _ _ _)
      | (with_reducible exact LeO.refl _)
      | (with_reducible exact LeO.none _)
      | (with_reducible refine LeO.ite ?_ ?_)
      | (with_reducible refine LeO.bind ?_ (fun _ => ?_))
      | exact ih0 _ _ _ _ _
      | exact LeO.none _
      | refine LeO.ite ?_ ?_
      | refine LeO.bind ?_ (fun _ => ?_)
theorem check_Sum.mono : ∀ a0 a1 k, LeO (check_Sum.f k a0 a1) (check_Sum.f (k + 1) a0 a1) := by
  intro a0 a1 k
  have ih0 := check_Sum.mono_l k
  unfold check_Sum.f
  repeat' first
      | (with_reducible exact ih0 _ _ _ _ _)
      | (with_reducible exact LeO.refl _)
      | (with_reducible exact LeO.none _)
      | (with_reducible refine LeO.ite ?_ ?_)
      | (with_reducible refine LeO.bind ?_ (fun _ => ?_))
      | exact ih0 _ _ _ _ _
      | exact LeO.none _
      | refine LeO.ite ?_ ?_
      | refine LeO.bind ?_ (fun _ => ?_)
set_option maxHeartbeats 8000000 in
set_option maxRecDepth 100000 in
theorem check_Sum.calls (k : Nat) (a0 : Int) (A1 : Option Addr) (c1 : Nat) (l1 : List Int) (r : Int) (w : World) (hr1 : Kd.C (Kd.int .u8) w A1 l1.length l1) (hc1 : l1.length ≤ c1) (h : check_Sum.f k a0 l1 = some r) :
    Calls Try.prog 10 #[.int .u16 a0, .slice A1 l1.length c1] w fun e w' => e = .returned (.int .u32 r) ∧ Drawn0 w w' := by
  have HR1 := Aside0.mk hr1
  have HC1 := Aside0.mk hc1
  clear hr1 hc1
  have H : (check_Sum.l0 k (((((a0) % 4294967296) + 1) % 4294967296) % 65521) 1 l1 (l1.length : Int) 0) = some r := h
  clear h
  have H' := Aside0.mk H
  clear H
  go_enter Try.func10, Try.ntmps10
  go_wp2
  go_loopg [5, 6, 15] k (fun kq v5 v6 v15 w' => ∃ (x5_1 : Int) (x6_1 : Int) (x15_1 : Int), v5 = .int .u32 x5_1 ∧ v6 = .int .u32 x6_1 ∧ v15 = .int .i64 x15_1 ∧ Aside0 (check_Sum.l0 kq x5_1 x6_1 l1 (l1.length : Int) x15_1 = some r) ∧ Aside0 (kq ≤ k) ∧ Drawn0 w w')
  case atStart => exact ⟨(((((a0) % 4294967296) + 1) % 4294967296) % 65521), (1), (0), (by first | rfl | (simp; done) | (simp [*]; done)), (by first | rfl | (simp; done) | (simp [*]; done)), (by first | rfl | (simp; done) | (simp [*]; done)), H', ⟨Nat.le_refl _⟩, by repeat (first | exact Drawn0.refl _ | apply Drawn0.step)⟩
  case round =>
    clear H'
    try clear c1
    try clear p2
    obtain ⟨x5_1, x6_1, x15_1, rfl, rfl, rfl, HA, HK1, ⟨m1, rfl⟩⟩ := hrel
    cases gk with
    | zero => exact absurd HA.out (by simp [check_Sum.l0])
    | succ k1 =>
      have H := HA.out
      clear HA
      simp only [check_Sum.l0] at H
      by_cases c3 : x15_1 < (l1.length : Int)
      · rw [if_pos c3] at H
        have c3b0 : decide (x15_1 < (l1.length : Int)) = true := decide_eq_true c3
        clear c3
        by_cases c4 : 0 ≤ x15_1
        · rw [if_pos c4] at H
          have c4b0 : decide (0 ≤ x15_1) = true := decide_eq_true c4
          clear c4
          by_cases c5 : x15_1 < (l1.length : Int)
          · rw [if_pos c5] at H
            have c5b0 : decide (x15_1 < (l1.length : Int)) = true := decide_eq_true c5
            clear c5
            have H' := Aside0.mk H
            clear H
            have p101 : 0 ≤ (x15_1 : Int) := of_decide_eq_true (by first | (with_reducible assumption) | assumption)
            have q101 : x15_1 < (l1.length : Int) := of_decide_eq_true (by first | (with_reducible assumption) | assumption)
            obtain ⟨ad101, e101, hx101_0⟩ := Kd.at_int HR1.out x15_1 p101 q101
            cases e101
            replace p101 := eq_true p101
            replace q101 := eq_true q101
            go_wp2
            go_roundg k1
            case measure => have := HK1.out; omega
            case rel => exact ⟨(((((x5_1 + ((rd l1 x15_1) % 4294967296)) % 4294967296) + 1) % 4294967296) % 65521), (((x6_1 + (((((x5_1 + ((rd l1 x15_1) % 4294967296)) % 4294967296) + 1) % 4294967296) % 65521)) % 4294967296) % 65521), (wrap64 (x15_1 + 1)), (by first | rfl | (simp; done) | (simp [*]; done)), (by first | rfl | (simp; done) | (simp [*]; done)), (by first | rfl | (simp; done) | (simp [*]; done)), H', ⟨by have := HK1.out; omega⟩, by repeat (first | exact Drawn0.refl _ | apply Drawn0.step)⟩
          · rw [if_neg c5] at H
            exact absurd H (by simp)
        · rw [if_neg c4] at H
          exact absurd H (by simp)
      · rw [if_neg c3] at H
        have c3b0 : decide (x15_1 < (l1.length : Int)) = false := decide_eq_false c3
        clear c3
        obtain rfl := Option.some.inj H
        go_wp2
        go_ret
        exact ⟨by first | rfl | (simp; done) | (simp [*]; done), by repeat (first | exact Drawn0.refl _ | apply Drawn0.step)⟩

/-! ### cantonlaw04_head: function 9 -/
def cantonlaw04_head.f (k : Nat)  : Option (Bool) := (check_Sum.f k 0 ([] : List Int)).bind fun t102 => (if t102 = 65537 then ((check_Sum.f k 0 (([0] : List Int))).bind fun t106 => (if t106 = 196610 then ((check_Newer.f 2 0 1 9).bind fun t107 => (if t107 = true then ((check_Newer.f 1 2 1 1).bind fun t108 => (if t108 = true then ((check_Newer.f 1 1 1 1).bind fun t109 => (some (!t109))) else (some false))) else (some false))) else (some false))) else (some false))
theorem cantonlaw04_head.mono : ∀ k, LeO (cantonlaw04_head.f k ) (cantonlaw04_head.f (k + 1) ) := by
  intro  k
  unfold cantonlaw04_head.f
  repeat' first
      | (with_reducible exact check_Sum.mono _ _ _)
      | (with_reducible exact LeO.refl _)
      | (with_reducible exact LeO.none _)
      | (with_reducible refine LeO.ite ?_ ?_)
      | (with_reducible refine LeO.bind ?_ (fun _ => ?_))
      | exact check_Sum.mono _ _ _
      | exact LeO.none _
      | refine LeO.ite ?_ ?_
      | refine LeO.bind ?_ (fun _ => ?_)
set_option maxHeartbeats 8000000 in
set_option maxRecDepth 100000 in
theorem cantonlaw04_head.calls (k : Nat)  (r : Bool) (w : World) (h : cantonlaw04_head.f k  = some r) :
    Calls Try.prog 9 #[] w fun e w' => e = .returned (.bool r) ∧ Below w.heap.size w w' := by
  have HB := Aside0.mk (Below.refl w.heap.size w)
  have H : ((check_Sum.f k 0 ([] : List Int)).bind fun t102 => (if t102 = 65537 then ((check_Sum.f k 0 (([0] : List Int))).bind fun t106 => (if t106 = 196610 then ((check_Newer.f 2 0 1 9).bind fun t107 => (if t107 = true then ((check_Newer.f 1 2 1 1).bind fun t108 => (if t108 = true then ((check_Newer.f 1 1 1 1).bind fun t109 => (some (!t109))) else (some false))) else (some false))) else (some false))) else (some false))) = some r := h
  clear h
  replace H := Option.bind_eq_some_iff.mp H
  obtain ⟨t102, A10, H⟩ := H
  replace H : (if t102 = 65537 then ((check_Sum.f k 0 (([0] : List Int))).bind fun t106 => (if t106 = 196610 then ((check_Newer.f 2 0 1 9).bind fun t107 => (if t107 = true then ((check_Newer.f 1 2 1 1).bind fun t108 => (if t108 = true then ((check_Newer.f 1 1 1 1).bind fun t109 => (some (!t109))) else (some false))) else (some false))) else (some false))) else (some false)) = some r := H
  have A1 := Aside0.mk A10
  clear A10
  by_cases c2 : t102 = 65537
  · rw [if_pos c2] at H
    have c2b0 : (t102 == 65537) = true := beq_iff_eq.mpr c2
    have c2b1 : (t102 != 65537) = false := bne_eq_false_iff_eq.mpr c2
    clear c2
    obtain ⟨y103, hy103⟩ : ∃ y_ : List Int, y_ = (([0] : List Int)) := ⟨_, rfl⟩
    replace H : ((check_Sum.f k 0 y103).bind fun t106 => (if t106 = 196610 then ((check_Newer.f 2 0 1 9).bind fun t107 => (if t107 = true then ((check_Newer.f 1 2 1 1).bind fun t108 => (if t108 = true then ((check_Newer.f 1 1 1 1).bind fun t109 => (some (!t109))) else (some false))) else (some false))) else (some false))) = some r := by first | (rw [hy103]; with_reducible exact H) | (have H2_ := (Option.bind_some _ _).symm.trans H; rw [hy103]; with_reducible exact H2_) | (have H2_ := (Option.bind_some _ _).symm.trans H; with_reducible exact H2_) | with_reducible exact H | (rw [hy103]; exact H) | exact H
    have Ny103 := Aside0.mk hy103
    clear hy103
    replace H := Option.bind_eq_some_iff.mp H
    obtain ⟨t106, A30, H⟩ := H
    replace H : (if t106 = 196610 then ((check_Newer.f 2 0 1 9).bind fun t107 => (if t107 = true then ((check_Newer.f 1 2 1 1).bind fun t108 => (if t108 = true then ((check_Newer.f 1 1 1 1).bind fun t109 => (some (!t109))) else (some false))) else (some false))) else (some false)) = some r := H
    have A3 := Aside0.mk A30
    clear A30
    by_cases c4 : t106 = 196610
    · rw [if_pos c4] at H
      have c4b0 : (t106 == 196610) = true := beq_iff_eq.mpr c4
      have c4b1 : (t106 != 196610) = false := bne_eq_false_iff_eq.mpr c4
      clear c4
      replace H := Option.bind_eq_some_iff.mp H
      obtain ⟨t107, A50, H⟩ := H
      replace H : (if t107 = true then ((check_Newer.f 1 2 1 1).bind fun t108 => (if t108 = true then ((check_Newer.f 1 1 1 1).bind fun t109 => (some (!t109))) else (some false))) else (some false)) = some r := H
      have A5 := Aside0.mk A50
      clear A50
      by_cases c6 : t107 = true
      · subst c6
        have H1 : ((check_Newer.f 1 2 1 1).bind fun t108 => (if t108 = true then ((check_Newer.f 1 1 1 1).bind fun t109 => (some (!t109))) else (some false))) = some r := by rw [if_pos rfl] at H; exact H
        clear H
        have H := H1
        clear H1
        replace H := Option.bind_eq_some_iff.mp H
        obtain ⟨t108, A70, H⟩ := H
        replace H : (if t108 = true then ((check_Newer.f 1 1 1 1).bind fun t109 => (some (!t109))) else (some false)) = some r := H
        have A7 := Aside0.mk A70
        clear A70
        by_cases c8 : t108 = true
        · subst c8
          have H1 : ((check_Newer.f 1 1 1 1).bind fun t109 => (some (!t109))) = some r := by rw [if_pos rfl] at H; exact H
          clear H
          have H := H1
          clear H1
          replace H := Option.bind_eq_some_iff.mp H
          obtain ⟨t109, A90, H⟩ := H
          replace H : (some (!t109)) = some r := H
          have A9 := Aside0.mk A90
          clear A90
          obtain rfl := Option.some.inj H
          go_enter Try.func9, Try.ntmps9
          go_wp2_with (first | ((with_reducible refine gate_callee (f := 10) rfl ?_); refine goesL_ (some 1) rfl rfl Try.func10 (by kernel_rfl) rfl #[.int .u16 0, .slice none 0 0] rfl (by (try simp only [List.map_toArray, List.map_cons, List.map_nil]); first | done | rfl | (simp only [List.length_drop, List.length_take]; rfl)) ?_; (refine (check_Sum.calls k 0 _ _ ([] : List Int) t102 _ ?side1 ?side2 A1.out).mono ?_); (case side1 => exact Kd.C_nil _ _); (case side2 => exact Nat.le_refl _); rintro e w' ⟨rfl, ⟨nd, rfl⟩⟩; refine ⟨_, rfl, ?_⟩) | ((with_reducible refine gate_dst (N := 4) rfl ?_); (try (refine gate_guard (by rfl) ?_; dsimp only)); refine Kd.R_lit (Kd.int .u8) _ 5 ?hg (N := 4) ?hd (xs := ([0] : List Int)) (inner := [.int .u8 0]) (ok := fun _ => True) (okp := fun _ => True) ?hr ?hp (fun _ hk => hk) trivial (Below.refl _ _) (Nat.le_refl _) (by simp) ?_; (case hd => rfl); (case hg => rfl); (case hr => first | (go_simp; done) | (go_simp; rfl)); (case hp => exact (Reps.one (show Kd.M (Kd.int .u8) _ _ _ 0 [.int .u8 0] from rfl) (Reps.none _ _))); intro v104 w10 ho11 hb hg_ hnew_; clear hg_ hnew_; (first | rw [← Ny103.out] at ho11 | (simp only [Int.reduceToNat] at ho11; rw [← Ny103.out] at ho11)); have n0_ := Aside0.mk (Kd.R_lower ho11 (below_size (by repeat (first | (with_reducible first | exact HB.out | apply below_alloc | apply pw_below_drewN | apply below_drew1) | exact HB.out)))); have n1_ := Aside0.mk (below_step (by repeat (first | (with_reducible first | exact HB.out | apply below_alloc | apply pw_below_drewN | apply below_drew1) | exact HB.out)) hb); clear HB; have HO105 := n0_; have HB := n1_; clear n0_ n1_; clear hb ho11; obtain ⟨Ao12, co12, eo12⟩ := Kd.R_slice HO105.out; subst eo12) | (go_at_call 10; (with_reducible refine (check_Sum.calls k 0 _ _ y103 t106 _ ?side1 ?side2 A3.out).mono ?_); (case side1 => repeat (first | exact (Kd.R_reads' HO105.out).2.2 | (with_reducible refine Kd.C_alloc ?_ _) | (with_reducible refine Kd.C_drewN ?_ _) | (with_reducible refine Kd.C_drew ?_))); (case side2 => exact (Kd.R_reads' HO105.out).2.1); rintro e w' ⟨rfl, ⟨nd, rfl⟩⟩) | (go_at_call 12; (with_reducible refine (check_Newer.calls 2 0 1 9 true _ A5.out).mono ?_); rintro e w' ⟨rfl, ⟨nd, rfl⟩⟩) | (go_at_call 12; (with_reducible refine (check_Newer.calls 1 2 1 1 true _ A7.out).mono ?_); rintro e w' ⟨rfl, ⟨nd, rfl⟩⟩) | (go_at_call 12; (with_reducible refine (check_Newer.calls 1 1 1 1 t109 _ A9.out).mono ?_); rintro e w' ⟨rfl, ⟨nd, rfl⟩⟩))
          go_ret
          exact ⟨by first | rfl | (simp [errW_none, errW_some] <;> rfl) | (simp [*, errW_none, errW_some] <;> rfl), by repeat (first | (with_reducible first | exact HB.out | apply below_alloc | apply pw_below_drewN | apply below_drew1) | exact HB.out)⟩
        · replace c8 := Bool.eq_false_iff.mpr c8
          subst c8
          have H1 : (some false) = some r := by rw [if_neg (show ¬ (false = true) by decide)] at H; exact H
          clear H
          have H := H1
          clear H1
          obtain rfl := Option.some.inj H
          go_enter Try.func9, Try.ntmps9
          go_wp2_with (first | ((with_reducible refine gate_callee (f := 10) rfl ?_); refine goesL_ (some 1) rfl rfl Try.func10 (by kernel_rfl) rfl #[.int .u16 0, .slice none 0 0] rfl (by (try simp only [List.map_toArray, List.map_cons, List.map_nil]); first | done | rfl | (simp only [List.length_drop, List.length_take]; rfl)) ?_; (refine (check_Sum.calls k 0 _ _ ([] : List Int) t102 _ ?side1 ?side2 A1.out).mono ?_); (case side1 => exact Kd.C_nil _ _); (case side2 => exact Nat.le_refl _); rintro e w' ⟨rfl, ⟨nd, rfl⟩⟩; refine ⟨_, rfl, ?_⟩) | ((with_reducible refine gate_dst (N := 4) rfl ?_); (try (refine gate_guard (by rfl) ?_; dsimp only)); refine Kd.R_lit (Kd.int .u8) _ 5 ?hg (N := 4) ?hd (xs := ([0] : List Int)) (inner := [.int .u8 0]) (ok := fun _ => True) (okp := fun _ => True) ?hr ?hp (fun _ hk => hk) trivial (Below.refl _ _) (Nat.le_refl _) (by simp) ?_; (case hd => rfl); (case hg => rfl); (case hr => first | (go_simp; done) | (go_simp; rfl)); (case hp => exact (Reps.one (show Kd.M (Kd.int .u8) _ _ _ 0 [.int .u8 0] from rfl) (Reps.none _ _))); intro v104 w13 ho14 hb hg_ hnew_; clear hg_ hnew_; (first | rw [← Ny103.out] at ho14 | (simp only [Int.reduceToNat] at ho14; rw [← Ny103.out] at ho14)); have n0_ := Aside0.mk (Kd.R_lower ho14 (below_size (by repeat (first | (with_reducible first | exact HB.out | apply below_alloc | apply pw_below_drewN | apply below_drew1) | exact HB.out)))); have n1_ := Aside0.mk (below_step (by repeat (first | (with_reducible first | exact HB.out | apply below_alloc | apply pw_below_drewN | apply below_drew1) | exact HB.out)) hb); clear HB; have HO105 := n0_; have HB := n1_; clear n0_ n1_; clear hb ho14; obtain ⟨Ao15, co15, eo15⟩ := Kd.R_slice HO105.out; subst eo15) | (go_at_call 10; (with_reducible refine (check_Sum.calls k 0 _ _ y103 t106 _ ?side1 ?side2 A3.out).mono ?_); (case side1 => repeat (first | exact (Kd.R_reads' HO105.out).2.2 | (with_reducible refine Kd.C_alloc ?_ _) | (with_reducible refine Kd.C_drewN ?_ _) | (with_reducible refine Kd.C_drew ?_))); (case side2 => exact (Kd.R_reads' HO105.out).2.1); rintro e w' ⟨rfl, ⟨nd, rfl⟩⟩) | (go_at_call 12; (with_reducible refine (check_Newer.calls 2 0 1 9 true _ A5.out).mono ?_); rintro e w' ⟨rfl, ⟨nd, rfl⟩⟩) | (go_at_call 12; (with_reducible refine (check_Newer.calls 1 2 1 1 false _ A7.out).mono ?_); rintro e w' ⟨rfl, ⟨nd, rfl⟩⟩))
          go_ret
          exact ⟨by first | rfl | (simp [errW_none, errW_some] <;> rfl) | (simp [*, errW_none, errW_some] <;> rfl), by repeat (first | (with_reducible first | exact HB.out | apply below_alloc | apply pw_below_drewN | apply below_drew1) | exact HB.out)⟩
      · replace c6 := Bool.eq_false_iff.mpr c6
        subst c6
        have H1 : (some false) = some r := by rw [if_neg (show ¬ (false = true) by decide)] at H; exact H
        clear H
        have H := H1
        clear H1
        obtain rfl := Option.some.inj H
        go_enter Try.func9, Try.ntmps9
        go_wp2_with (first | ((with_reducible refine gate_callee (f := 10) rfl ?_); refine goesL_ (some 1) rfl rfl Try.func10 (by kernel_rfl) rfl #[.int .u16 0, .slice none 0 0] rfl (by (try simp only [List.map_toArray, List.map_cons, List.map_nil]); first | done | rfl | (simp only [List.length_drop, List.length_take]; rfl)) ?_; (refine (check_Sum.calls k 0 _ _ ([] : List Int) t102 _ ?side1 ?side2 A1.out).mono ?_); (case side1 => exact Kd.C_nil _ _); (case side2 => exact Nat.le_refl _); rintro e w' ⟨rfl, ⟨nd, rfl⟩⟩; refine ⟨_, rfl, ?_⟩) | ((with_reducible refine gate_dst (N := 4) rfl ?_); (try (refine gate_guard (by rfl) ?_; dsimp only)); refine Kd.R_lit (Kd.int .u8) _ 5 ?hg (N := 4) ?hd (xs := ([0] : List Int)) (inner := [.int .u8 0]) (ok := fun _ => True) (okp := fun _ => True) ?hr ?hp (fun _ hk => hk) trivial (Below.refl _ _) (Nat.le_refl _) (by simp) ?_; (case hd => rfl); (case hg => rfl); (case hr => first | (go_simp; done) | (go_simp; rfl)); (case hp => exact (Reps.one (show Kd.M (Kd.int .u8) _ _ _ 0 [.int .u8 0] from rfl) (Reps.none _ _))); intro v104 w16 ho17 hb hg_ hnew_; clear hg_ hnew_; (first | rw [← Ny103.out] at ho17 | (simp only [Int.reduceToNat] at ho17; rw [← Ny103.out] at ho17)); have n0_ := Aside0.mk (Kd.R_lower ho17 (below_size (by repeat (first | (with_reducible first | exact HB.out | apply below_alloc | apply pw_below_drewN | apply below_drew1) | exact HB.out)))); have n1_ := Aside0.mk (below_step (by repeat (first | (with_reducible first | exact HB.out | apply below_alloc | apply pw_below_drewN | apply below_drew1) | exact HB.out)) hb); clear HB; have HO105 := n0_; have HB := n1_; clear n0_ n1_; clear hb ho17; obtain ⟨Ao18, co18, eo18⟩ := Kd.R_slice HO105.out; subst eo18) | (go_at_call 10; (with_reducible refine (check_Sum.calls k 0 _ _ y103 t106 _ ?side1 ?side2 A3.out).mono ?_); (case side1 => repeat (first | exact (Kd.R_reads' HO105.out).2.2 | (with_reducible refine Kd.C_alloc ?_ _) | (with_reducible refine Kd.C_drewN ?_ _) | (with_reducible refine Kd.C_drew ?_))); (case side2 => exact (Kd.R_reads' HO105.out).2.1); rintro e w' ⟨rfl, ⟨nd, rfl⟩⟩) | (go_at_call 12; (with_reducible refine (check_Newer.calls 2 0 1 9 false _ A5.out).mono ?_); rintro e w' ⟨rfl, ⟨nd, rfl⟩⟩))
        go_ret
        exact ⟨by first | rfl | (simp [errW_none, errW_some] <;> rfl) | (simp [*, errW_none, errW_some] <;> rfl), by repeat (first | (with_reducible first | exact HB.out | apply below_alloc | apply pw_below_drewN | apply below_drew1) | exact HB.out)⟩
    · rw [if_neg c4] at H
      have c4b0 : (t106 == 196610) = false := beq_eq_false_iff_ne.mpr c4
      have c4b1 : (t106 != 196610) = true := bne_iff_ne.mpr c4
      obtain rfl := Option.some.inj H
      go_enter Try.func9, Try.ntmps9
      go_wp2_with (first | ((with_reducible refine gate_callee (f := 10) rfl ?_); refine goesL_ (some 1) rfl rfl Try.func10 (by kernel_rfl) rfl #[.int .u16 0, .slice none 0 0] rfl (by (try simp only [List.map_toArray, List.map_cons, List.map_nil]); first | done | rfl | (simp only [List.length_drop, List.length_take]; rfl)) ?_; (refine (check_Sum.calls k 0 _ _ ([] : List Int) t102 _ ?side1 ?side2 A1.out).mono ?_); (case side1 => exact Kd.C_nil _ _); (case side2 => exact Nat.le_refl _); rintro e w' ⟨rfl, ⟨nd, rfl⟩⟩; refine ⟨_, rfl, ?_⟩) | ((with_reducible refine gate_dst (N := 4) rfl ?_); (try (refine gate_guard (by rfl) ?_; dsimp only)); refine Kd.R_lit (Kd.int .u8) _ 5 ?hg (N := 4) ?hd (xs := ([0] : List Int)) (inner := [.int .u8 0]) (ok := fun _ => True) (okp := fun _ => True) ?hr ?hp (fun _ hk => hk) trivial (Below.refl _ _) (Nat.le_refl _) (by simp) ?_; (case hd => rfl); (case hg => rfl); (case hr => first | (go_simp; done) | (go_simp; rfl)); (case hp => exact (Reps.one (show Kd.M (Kd.int .u8) _ _ _ 0 [.int .u8 0] from rfl) (Reps.none _ _))); intro v104 w19 ho20 hb hg_ hnew_; clear hg_ hnew_; (first | rw [← Ny103.out] at ho20 | (simp only [Int.reduceToNat] at ho20; rw [← Ny103.out] at ho20)); have n0_ := Aside0.mk (Kd.R_lower ho20 (below_size (by repeat (first | (with_reducible first | exact HB.out | apply below_alloc | apply pw_below_drewN | apply below_drew1) | exact HB.out)))); have n1_ := Aside0.mk (below_step (by repeat (first | (with_reducible first | exact HB.out | apply below_alloc | apply pw_below_drewN | apply below_drew1) | exact HB.out)) hb); clear HB; have HO105 := n0_; have HB := n1_; clear n0_ n1_; clear hb ho20; obtain ⟨Ao21, co21, eo21⟩ := Kd.R_slice HO105.out; subst eo21) | (go_at_call 10; (with_reducible refine (check_Sum.calls k 0 _ _ y103 t106 _ ?side1 ?side2 A3.out).mono ?_); (case side1 => repeat (first | exact (Kd.R_reads' HO105.out).2.2 | (with_reducible refine Kd.C_alloc ?_ _) | (with_reducible refine Kd.C_drewN ?_ _) | (with_reducible refine Kd.C_drew ?_))); (case side2 => exact (Kd.R_reads' HO105.out).2.1); rintro e w' ⟨rfl, ⟨nd, rfl⟩⟩))
      go_ret
      exact ⟨by first | rfl | (simp [errW_none, errW_some] <;> rfl) | (simp [*, errW_none, errW_some] <;> rfl), by repeat (first | (with_reducible first | exact HB.out | apply below_alloc | apply pw_below_drewN | apply below_drew1) | exact HB.out)⟩
  · rw [if_neg c2] at H
    have c2b0 : (t102 == 65537) = false := beq_eq_false_iff_ne.mpr c2
    have c2b1 : (t102 != 65537) = true := bne_iff_ne.mpr c2
    obtain rfl := Option.some.inj H
    go_enter Try.func9, Try.ntmps9
    go_wp2_with (first | ((with_reducible refine gate_callee (f := 10) rfl ?_); refine goesL_ (some 1) rfl rfl Try.func10 (by kernel_rfl) rfl #[.int .u16 0, .slice none 0 0] rfl (by (try simp only [List.map_toArray, List.map_cons, List.map_nil]); first | done | rfl | (simp only [List.length_drop, List.length_take]; rfl)) ?_; (refine (check_Sum.calls k 0 _ _ ([] : List Int) t102 _ ?side1 ?side2 A1.out).mono ?_); (case side1 => exact Kd.C_nil _ _); (case side2 => exact Nat.le_refl _); rintro e w' ⟨rfl, ⟨nd, rfl⟩⟩; refine ⟨_, rfl, ?_⟩))
    go_ret
    exact ⟨by first | rfl | (simp [errW_none, errW_some] <;> rfl) | (simp [*, errW_none, errW_some] <;> rfl), by repeat (first | (with_reducible first | exact HB.out | apply below_alloc | apply pw_below_drewN | apply below_drew1) | exact HB.out)⟩

/-! ### cantonref04_Sum: function 11 -/
def cantonref04_Sum.l0 : Nat → List Int → Int → Int → Int → Option (Int)
  | 0, _, _, _, _ => none
  | k + 1, x1, x5, x6, x7 => if x7 < (x1.length : Int) then (if 0 ≤ x7 then (cantonref04_Sum.l0 k x1 (Int.tmod (wrap64 ((wrap64 (x5 + (wrap64 (rd x1 x7)))) + 1)) 65521) (Int.tmod (wrap64 (x6 + (Int.tmod (wrap64 ((wrap64 (x5 + (wrap64 (rd x1 x7)))) + 1)) 65521))) 65521) (wrap64 (x7 + 1))) else (none)) else (some ((((((x6) % 4294967296) * 65536) % 4294967296) + ((x5) % 4294967296)) % 4294967296))
def cantonref04_Sum.f (k : Nat) (a0 : Int) (l1 : List Int) : Option (Int) := cantonref04_Sum.l0 k l1 (Int.tmod (wrap64 ((wrap64 (a0)) + 1)) 65521) 1 0
theorem cantonref04_Sum.mono_l : ∀ k, (∀ y0 y1 y2 y3, LeO (cantonref04_Sum.l0 k y0 y1 y2 y3) (cantonref04_Sum.l0 (k + 1) y0 y1 y2 y3))
  | 0 => fun _ _ _ _ r h => by simp [cantonref04_Sum.l0] at h
  | k + 1 => by
    have ih0 := cantonref04_Sum.mono_l k
    · intro y0 y1 y2 y3
      unfold cantonref04_Sum.l0
      repeat' first
      | (with_reducible exact ih0 _ _ _ _)
      | (with_reducible exact LeO.refl _)
      | (with_reducible exact LeO.none _)
      | (with_reducible refine LeO.ite ?_ ?_)
      | (with_reducible refine LeO.bind ?_ (fun _ => ?_))
      | exact ih0 _ _ _ _
      | exact LeO.none _
      | refine LeO.ite ?_ ?_
      | refine LeO.bind ?_ (fun _ => ?_)
theorem cantonref04_Sum.mono : ∀ a0 a1 k, LeO (cantonref04_Sum.f k a0 a1) (cantonref04_Sum.f (k + 1) a0 a1) := by
  intro a0 a1 k
  have ih0 := cantonref04_Sum.mono_l k
  unfold cantonref04_Sum.f
  repeat' first
      | (with_reducible exact ih0 _ _ _ _)
      | (with_reducible exact LeO.refl _)
      | (with_reducible exact LeO.none _)
      | (with_reducible refine LeO.ite ?_ ?_)
      | (with_reducible refine LeO.bind ?_ (fun _ => ?_))
      | exact ih0 _ _ _ _
      | exact LeO.none _
      | refine LeO.ite ?_ ?_
      | refine LeO.bind ?_ (fun _ => ?_)
set_option maxHeartbeats 8000000 in
set_option maxRecDepth 100000 in
theorem cantonref04_Sum.calls (k : Nat) (a0 : Int) (A1 : Option Addr) (c1 : Nat) (l1 : List Int) (r : Int) (w : World) (hr1 : Kd.C (Kd.int .u8) w A1 l1.length l1) (hc1 : l1.length ≤ c1) (h : cantonref04_Sum.f k a0 l1 = some r) :
    Calls Try.prog 11 #[.int .u16 a0, .slice A1 l1.length c1] w fun e w' => e = .returned (.int .u32 r) ∧ Drawn0 w w' := by
  have HR1 := Aside0.mk hr1
  have HC1 := Aside0.mk hc1
  clear hr1 hc1
  have H : (cantonref04_Sum.l0 k l1 (Int.tmod (wrap64 ((wrap64 (a0)) + 1)) 65521) 1 0) = some r := h
  clear h
  have H' := Aside0.mk H
  clear H
  go_enter Try.func11, Try.ntmps11
  go_wp2
  go_loopg [5, 6, 7] k (fun kq v5 v6 v7 w' => ∃ (x5_1 : Int) (x6_1 : Int) (x7_1 : Int), v5 = .int .i64 x5_1 ∧ v6 = .int .i64 x6_1 ∧ v7 = .int .i64 x7_1 ∧ Aside0 (cantonref04_Sum.l0 kq l1 x5_1 x6_1 x7_1 = some r) ∧ Aside0 (kq ≤ k) ∧ Drawn0 w w')
  case atStart => exact ⟨(Int.tmod (wrap64 ((wrap64 (a0)) + 1)) 65521), (1), (0), (by first | rfl | (simp; done) | (simp [*]; done)), (by first | rfl | (simp; done) | (simp [*]; done)), (by first | rfl | (simp; done) | (simp [*]; done)), H', ⟨Nat.le_refl _⟩, by repeat (first | exact Drawn0.refl _ | apply Drawn0.step)⟩
  case round =>
    clear H'
    try clear c1
    try clear p2
    obtain ⟨x5_1, x6_1, x7_1, rfl, rfl, rfl, HA, HK1, ⟨m1, rfl⟩⟩ := hrel
    cases gk with
    | zero => exact absurd HA.out (by simp [cantonref04_Sum.l0])
    | succ k1 =>
      have H := HA.out
      clear HA
      simp only [cantonref04_Sum.l0] at H
      by_cases c3 : x7_1 < (l1.length : Int)
      · rw [if_pos c3] at H
        have c3b0 : decide (x7_1 < (l1.length : Int)) = true := decide_eq_true c3
        clear c3
        by_cases c4 : 0 ≤ x7_1
        · rw [if_pos c4] at H
          have c4b0 : decide (0 ≤ x7_1) = true := decide_eq_true c4
          clear c4
          have H' := Aside0.mk H
          clear H
          have p110 : 0 ≤ (x7_1 : Int) := of_decide_eq_true (by first | (with_reducible assumption) | assumption)
          have q110 : x7_1 < (l1.length : Int) := of_decide_eq_true (by first | (with_reducible assumption) | assumption)
          obtain ⟨ad110, e110, hx110_0⟩ := Kd.at_int HR1.out x7_1 p110 q110
          cases e110
          replace p110 := eq_true p110
          replace q110 := eq_true q110
          go_wp2
          go_roundg k1
          case measure => have := HK1.out; omega
          case rel => exact ⟨(Int.tmod (wrap64 ((wrap64 (x5_1 + (wrap64 (rd l1 x7_1)))) + 1)) 65521), (Int.tmod (wrap64 (x6_1 + (Int.tmod (wrap64 ((wrap64 (x5_1 + (wrap64 (rd l1 x7_1)))) + 1)) 65521))) 65521), (wrap64 (x7_1 + 1)), (by first | rfl | (simp; done) | (simp [*]; done)), (by first | rfl | (simp; done) | (simp [*]; done)), (by first | rfl | (simp; done) | (simp [*]; done)), H', ⟨by have := HK1.out; omega⟩, by repeat (first | exact Drawn0.refl _ | apply Drawn0.step)⟩
        · rw [if_neg c4] at H
          exact absurd H (by simp)
      · rw [if_neg c3] at H
        have c3b0 : decide (x7_1 < (l1.length : Int)) = false := decide_eq_false c3
        clear c3
        obtain rfl := Option.some.inj H
        go_wp2
        go_ret
        exact ⟨by first | rfl | (simp; done) | (simp [*]; done), by repeat (first | exact Drawn0.refl _ | apply Drawn0.step)⟩

/-! ### cantonref04_Newer: function 13 -/
def cantonref04_Newer.f (a0 : Int) (a1 : Int) (a2 : Int) (a3 : Int) : Option (Bool) := if a0 < 0 then (some false) else (if a1 < 0 then (some false) else (if a2 < 0 then (some false) else (if a3 < 0 then (some false) else (if a0 > 281474976710656 then (some false) else (if a1 > 281474976710656 then (some false) else (if a2 > 281474976710656 then (some false) else (if a3 > 281474976710656 then (some false) else (if a0 > a2 then (some true) else (if a0 = a2 then (some (decide (a1 > a3))) else (some false))))))))))
set_option maxHeartbeats 8000000 in
set_option maxRecDepth 100000 in
theorem cantonref04_Newer.calls (a0 : Int) (a1 : Int) (a2 : Int) (a3 : Int) (r : Bool) (w : World) (h : cantonref04_Newer.f a0 a1 a2 a3 = some r) :
    Calls Try.prog 13 #[.int .i64 a0, .int .i64 a1, .int .i64 a2, .int .i64 a3] w fun e w' => e = .returned (.bool r) ∧ Drawn0 w w' := by
  have H : (if a0 < 0 then (some false) else (if a1 < 0 then (some false) else (if a2 < 0 then (some false) else (if a3 < 0 then (some false) else (if a0 > 281474976710656 then (some false) else (if a1 > 281474976710656 then (some false) else (if a2 > 281474976710656 then (some false) else (if a3 > 281474976710656 then (some false) else (if a0 > a2 then (some true) else (if a0 = a2 then (some (decide (a1 > a3))) else (some false))))))))))) = some r := h
  clear h
  by_cases c5 : a0 < 0
  · rw [if_pos c5] at H
    have c5b0 : decide (a0 < 0) = true := decide_eq_true c5
    clear c5
    obtain rfl := Option.some.inj H
    go_enter Try.func13, Try.ntmps13
    go_wp2
    go_ret
    exact ⟨by first | rfl | (simp; done) | (simp [*]; done), by repeat (first | exact Drawn0.refl _ | apply Drawn0.step)⟩
  · rw [if_neg c5] at H
    have c5b0 : decide (a0 < 0) = false := decide_eq_false c5
    clear c5
    by_cases c6 : a1 < 0
    · rw [if_pos c6] at H
      have c6b0 : decide (a1 < 0) = true := decide_eq_true c6
      clear c6
      obtain rfl := Option.some.inj H
      go_enter Try.func13, Try.ntmps13
      go_wp2
      go_ret
      exact ⟨by first | rfl | (simp; done) | (simp [*]; done), by repeat (first | exact Drawn0.refl _ | apply Drawn0.step)⟩
    · rw [if_neg c6] at H
      have c6b0 : decide (a1 < 0) = false := decide_eq_false c6
      clear c6
      by_cases c7 : a2 < 0
      · rw [if_pos c7] at H
        have c7b0 : decide (a2 < 0) = true := decide_eq_true c7
        clear c7
        obtain rfl := Option.some.inj H
        go_enter Try.func13, Try.ntmps13
        go_wp2
        go_ret
        exact ⟨by first | rfl | (simp; done) | (simp [*]; done), by repeat (first | exact Drawn0.refl _ | apply Drawn0.step)⟩
      · rw [if_neg c7] at H
        have c7b0 : decide (a2 < 0) = false := decide_eq_false c7
        clear c7
        by_cases c8 : a3 < 0
        · rw [if_pos c8] at H
          have c8b0 : decide (a3 < 0) = true := decide_eq_true c8
          clear c8
          obtain rfl := Option.some.inj H
          go_enter Try.func13, Try.ntmps13
          go_wp2
          go_ret
          exact ⟨by first | rfl | (simp; done) | (simp [*]; done), by repeat (first | exact Drawn0.refl _ | apply Drawn0.step)⟩
        · rw [if_neg c8] at H
          have c8b0 : decide (a3 < 0) = false := decide_eq_false c8
          clear c8
          by_cases c9 : a0 > 281474976710656
          · rw [if_pos c9] at H
            have c9b0 : decide (281474976710656 < a0) = true := decide_eq_true c9
            clear c9
            obtain rfl := Option.some.inj H
            go_enter Try.func13, Try.ntmps13
            go_wp2
            go_ret
            exact ⟨by first | rfl | (simp; done) | (simp [*]; done), by repeat (first | exact Drawn0.refl _ | apply Drawn0.step)⟩
          · rw [if_neg c9] at H
            have c9b0 : decide (281474976710656 < a0) = false := decide_eq_false c9
            clear c9
            by_cases c10 : a1 > 281474976710656
            · rw [if_pos c10] at H
              have c10b0 : decide (281474976710656 < a1) = true := decide_eq_true c10
              clear c10
              obtain rfl := Option.some.inj H
              go_enter Try.func13, Try.ntmps13
              go_wp2
              go_ret
              exact ⟨by first | rfl | (simp; done) | (simp [*]; done), by repeat (first | exact Drawn0.refl _ | apply Drawn0.step)⟩
            · rw [if_neg c10] at H
              have c10b0 : decide (281474976710656 < a1) = false := decide_eq_false c10
              clear c10
              by_cases c11 : a2 > 281474976710656
              · rw [if_pos c11] at H
                have c11b0 : decide (281474976710656 < a2) = true := decide_eq_true c11
                clear c11
                obtain rfl := Option.some.inj H
                go_enter Try.func13, Try.ntmps13
                go_wp2
                go_ret
                exact ⟨by first | rfl | (simp; done) | (simp [*]; done), by repeat (first | exact Drawn0.refl _ | apply Drawn0.step)⟩
              · rw [if_neg c11] at H
                have c11b0 : decide (281474976710656 < a2) = false := decide_eq_false c11
                clear c11
                by_cases c12 : a3 > 281474976710656
                · rw [if_pos c12] at H
                  have c12b0 : decide (281474976710656 < a3) = true := decide_eq_true c12
                  clear c12
                  obtain rfl := Option.some.inj H
                  go_enter Try.func13, Try.ntmps13
                  go_wp2
                  go_ret
                  exact ⟨by first | rfl | (simp; done) | (simp [*]; done), by repeat (first | exact Drawn0.refl _ | apply Drawn0.step)⟩
                · rw [if_neg c12] at H
                  have c12b0 : decide (281474976710656 < a3) = false := decide_eq_false c12
                  clear c12
                  by_cases c13 : a0 > a2
                  · rw [if_pos c13] at H
                    have c13b0 : decide (a2 < a0) = true := decide_eq_true c13
                    clear c13
                    obtain rfl := Option.some.inj H
                    go_enter Try.func13, Try.ntmps13
                    go_wp2
                    go_ret
                    exact ⟨by first | rfl | (simp; done) | (simp [*]; done), by repeat (first | exact Drawn0.refl _ | apply Drawn0.step)⟩
                  · rw [if_neg c13] at H
                    have c13b0 : decide (a2 < a0) = false := decide_eq_false c13
                    clear c13
                    by_cases c14 : a0 = a2
                    · rw [if_pos c14] at H
                      have c14b0 : (a0 == a2) = true := beq_iff_eq.mpr c14
                      have c14b1 : (a0 != a2) = false := bne_eq_false_iff_eq.mpr c14
                      clear c14
                      obtain rfl := Option.some.inj H
                      go_enter Try.func13, Try.ntmps13
                      go_wp2
                      go_ret
                      exact ⟨by first | rfl | (simp; done) | (simp [*]; done), by repeat (first | exact Drawn0.refl _ | apply Drawn0.step)⟩
                    · rw [if_neg c14] at H
                      have c14b0 : (a0 == a2) = false := beq_eq_false_iff_ne.mpr c14
                      have c14b1 : (a0 != a2) = true := bne_iff_ne.mpr c14
                      obtain rfl := Option.some.inj H
                      go_enter Try.func13, Try.ntmps13
                      go_wp2
                      go_ret
                      exact ⟨by first | rfl | (simp; done) | (simp [*]; done), by repeat (first | exact Drawn0.refl _ | apply Drawn0.step)⟩

/-! ### cantonlaw04_CheckTells: function 3 -/
def cantonlaw04_CheckTells.f (k : Nat) (a0 : Int) (l1 : List Int) (a2 : Int) (a3 : Int) (a4 : Int) (a5 : Int) : Option (Bool) := (cantonlaw04_head.f k).bind fun t111 => (if (l1.length : Int) > 100000 then (some t111) else (if t111 = true then ((check_Sum.f k a0 l1).bind fun t112 => ((cantonref04_Sum.f k a0 l1).bind fun t113 => (if t112 = t113 then ((check_Newer.f a2 a3 a4 a5).bind fun t114 => ((cantonref04_Newer.f a2 a3 a4 a5).bind fun t115 => (some (t114 == t115)))) else (some false)))) else (some false)))
theorem cantonlaw04_CheckTells.mono : ∀ a0 a1 a2 a3 a4 a5 k, LeO (cantonlaw04_CheckTells.f k a0 a1 a2 a3 a4 a5) (cantonlaw04_CheckTells.f (k + 1) a0 a1 a2 a3 a4 a5) := by
  intro a0 a1 a2 a3 a4 a5 k
  unfold cantonlaw04_CheckTells.f
  repeat' first
      | (with_reducible exact cantonlaw04_head.mono _)
      | (with_reducible exact cantonref04_Sum.mono _ _ _)
      | (with_reducible exact check_Sum.mono _ _ _)
      | (with_reducible exact LeO.refl _)
      | (with_reducible exact LeO.none _)
      | (with_reducible refine LeO.ite ?_ ?_)
      | (with_reducible refine LeO.bind ?_ (fun _ => ?_))
      | exact cantonlaw04_head.mono _
      | exact cantonref04_Sum.mono _ _ _
      | exact check_Sum.mono _ _ _
      | exact LeO.none _
      | refine LeO.ite ?_ ?_
      | refine LeO.bind ?_ (fun _ => ?_)
set_option maxHeartbeats 8000000 in
set_option maxRecDepth 100000 in
theorem cantonlaw04_CheckTells.calls (k : Nat) (a0 : Int) (A1 : Option Addr) (c1 : Nat) (l1 : List Int) (a2 : Int) (a3 : Int) (a4 : Int) (a5 : Int) (r : Bool) (w : World) (hr1 : Kd.C (Kd.int .u8) w A1 l1.length l1) (hc1 : l1.length ≤ c1) (h : cantonlaw04_CheckTells.f k a0 l1 a2 a3 a4 a5 = some r) :
    Calls Try.prog 3 #[.int .u16 a0, .slice A1 l1.length c1, .int .i64 a2, .int .i64 a3, .int .i64 a4, .int .i64 a5] w fun e w' => e = .returned (.bool r) ∧ Below w.heap.size w w' := by
  have HR1 := Aside0.mk hr1
  have HC1 := Aside0.mk hc1
  clear hr1 hc1
  have HB := Aside0.mk (Below.refl w.heap.size w)
  have H : ((cantonlaw04_head.f k).bind fun t111 => (if (l1.length : Int) > 100000 then (some t111) else (if t111 = true then ((check_Sum.f k a0 l1).bind fun t112 => ((cantonref04_Sum.f k a0 l1).bind fun t113 => (if t112 = t113 then ((check_Newer.f a2 a3 a4 a5).bind fun t114 => ((cantonref04_Newer.f a2 a3 a4 a5).bind fun t115 => (some (t114 == t115)))) else (some false)))) else (some false)))) = some r := h
  clear h
  replace H := Option.bind_eq_some_iff.mp H
  obtain ⟨t111, A70, H⟩ := H
  replace H : (if (l1.length : Int) > 100000 then (some t111) else (if t111 = true then ((check_Sum.f k a0 l1).bind fun t112 => ((cantonref04_Sum.f k a0 l1).bind fun t113 => (if t112 = t113 then ((check_Newer.f a2 a3 a4 a5).bind fun t114 => ((cantonref04_Newer.f a2 a3 a4 a5).bind fun t115 => (some (t114 == t115)))) else (some false)))) else (some false))) = some r := H
  have A7 := Aside0.mk A70
  clear A70
  by_cases c8 : (l1.length : Int) > 100000
  · rw [if_pos c8] at H
    have c8b0 : decide (100000 < (l1.length : Int)) = true := decide_eq_true c8
    have c8b1 : decide (100000 < l1.length) = true := decide_eq_true (by omega)
    clear c8
    obtain rfl := Option.some.inj H
    go_enter Try.func3, Try.ntmps3
    go_wp2_with (first | ((with_reducible refine gate_callee (f := 9) rfl ?_); refine goesL_ (some 14) rfl rfl Try.func9 (by kernel_rfl) rfl #[] rfl (by (try simp only [List.map_toArray, List.map_cons, List.map_nil]); first | done | rfl | (simp only [List.length_drop, List.length_take]; rfl)) ?_; (with_reducible refine (cantonlaw04_head.calls k  t111 _ A7.out).mono ?_); rintro e w9 ⟨rfl, hb⟩; refine ⟨_, rfl, ?_⟩; have n0_ := Aside0.mk (below_step (by repeat (first | (with_reducible first | exact HB.out | apply below_alloc | apply pw_below_drewN | apply below_drew1) | exact HB.out)) hb); clear HB; have HB := n0_; clear n0_; (try clear hb); (try clear hb2); (try clear hk); (try clear hi)))
    go_ret
    exact ⟨by first | rfl | (simp [errW_none, errW_some] <;> rfl) | (simp [*, errW_none, errW_some] <;> rfl), by repeat (first | (with_reducible first | exact HB.out | apply below_alloc | apply pw_below_drewN | apply below_drew1) | exact HB.out)⟩
  · rw [if_neg c8] at H
    have c8b0 : decide (100000 < (l1.length : Int)) = false := decide_eq_false c8
    have c8b1 : decide (100000 < l1.length) = false := decide_eq_false (by omega)
    clear c8
    by_cases c10 : t111 = true
    · subst c10
      have H1 : ((check_Sum.f k a0 l1).bind fun t112 => ((cantonref04_Sum.f k a0 l1).bind fun t113 => (if t112 = t113 then ((check_Newer.f a2 a3 a4 a5).bind fun t114 => ((cantonref04_Newer.f a2 a3 a4 a5).bind fun t115 => (some (t114 == t115)))) else (some false)))) = some r := by rw [if_pos rfl] at H; exact H
      clear H
      have H := H1
      clear H1
      replace H := Option.bind_eq_some_iff.mp H
      obtain ⟨t112, A110, H⟩ := H
      replace H : ((cantonref04_Sum.f k a0 l1).bind fun t113 => (if t112 = t113 then ((check_Newer.f a2 a3 a4 a5).bind fun t114 => ((cantonref04_Newer.f a2 a3 a4 a5).bind fun t115 => (some (t114 == t115)))) else (some false))) = some r := H
      have A11 := Aside0.mk A110
      clear A110
      replace H := Option.bind_eq_some_iff.mp H
      obtain ⟨t113, A120, H⟩ := H
      replace H : (if t112 = t113 then ((check_Newer.f a2 a3 a4 a5).bind fun t114 => ((cantonref04_Newer.f a2 a3 a4 a5).bind fun t115 => (some (t114 == t115)))) else (some false)) = some r := H
      have A12 := Aside0.mk A120
      clear A120
      by_cases c13 : t112 = t113
      · rw [if_pos c13] at H
        have c13b0 : (t112 == t113) = true := beq_iff_eq.mpr c13
        have c13b1 : (t112 != t113) = false := bne_eq_false_iff_eq.mpr c13
        clear c13
        replace H := Option.bind_eq_some_iff.mp H
        obtain ⟨t114, A140, H⟩ := H
        replace H : ((cantonref04_Newer.f a2 a3 a4 a5).bind fun t115 => (some (t114 == t115))) = some r := H
        have A14 := Aside0.mk A140
        clear A140
        replace H := Option.bind_eq_some_iff.mp H
        obtain ⟨t115, A150, H⟩ := H
        replace H : (some (t114 == t115)) = some r := H
        have A15 := Aside0.mk A150
        clear A150
        obtain rfl := Option.some.inj H
        go_enter Try.func3, Try.ntmps3
        go_wp2_with (first | ((with_reducible refine gate_callee (f := 9) rfl ?_); refine goesL_ (some 14) rfl rfl Try.func9 (by kernel_rfl) rfl #[] rfl (by (try simp only [List.map_toArray, List.map_cons, List.map_nil]); first | done | rfl | (simp only [List.length_drop, List.length_take]; rfl)) ?_; (with_reducible refine (cantonlaw04_head.calls k  true _ A7.out).mono ?_); rintro e w16 ⟨rfl, hb⟩; refine ⟨_, rfl, ?_⟩; have n0_ := Aside0.mk (below_step (by repeat (first | (with_reducible first | exact HB.out | apply below_alloc | apply pw_below_drewN | apply below_drew1) | exact HB.out)) hb); clear HB; have HB := n0_; clear n0_; (try clear hb); (try clear hb2); (try clear hk); (try clear hi)) | (go_at_call 10; (with_reducible refine (check_Sum.calls k a0 _ _ l1 t112 _ ?side1 ?side2 A11.out).mono ?_); (case side1 => repeat (first | exact (Kd.C_below HR1.out HB.out) | (with_reducible refine Kd.C_alloc ?_ _) | (with_reducible refine Kd.C_drewN ?_ _) | (with_reducible refine Kd.C_drew ?_))); (case side2 => exact HC1.out); rintro e w' ⟨rfl, ⟨nd, rfl⟩⟩) | (go_at_call 11; (with_reducible refine (cantonref04_Sum.calls k a0 _ _ l1 t113 _ ?side1 ?side2 A12.out).mono ?_); (case side1 => repeat (first | exact (Kd.C_below HR1.out (by repeat (first | (with_reducible first | exact HB.out | apply below_alloc | apply pw_below_drewN | apply below_drew1) | exact HB.out))) | (with_reducible refine Kd.C_alloc ?_ _) | (with_reducible refine Kd.C_drewN ?_ _) | (with_reducible refine Kd.C_drew ?_))); (case side2 => exact HC1.out); rintro e w' ⟨rfl, ⟨nd, rfl⟩⟩) | (go_at_call 12; (with_reducible refine (check_Newer.calls a2 a3 a4 a5 t114 _ A14.out).mono ?_); rintro e w' ⟨rfl, ⟨nd, rfl⟩⟩) | (go_at_call 13; (with_reducible refine (cantonref04_Newer.calls a2 a3 a4 a5 t115 _ A15.out).mono ?_); rintro e w' ⟨rfl, ⟨nd, rfl⟩⟩))
        go_ret
        exact ⟨by first | rfl | (simp [errW_none, errW_some] <;> rfl) | (simp [*, errW_none, errW_some] <;> rfl), by repeat (first | (with_reducible first | exact HB.out | apply below_alloc | apply pw_below_drewN | apply below_drew1) | exact HB.out)⟩
      · rw [if_neg c13] at H
        have c13b0 : (t112 == t113) = false := beq_eq_false_iff_ne.mpr c13
        have c13b1 : (t112 != t113) = true := bne_iff_ne.mpr c13
        obtain rfl := Option.some.inj H
        go_enter Try.func3, Try.ntmps3
        go_wp2_with (first | ((with_reducible refine gate_callee (f := 9) rfl ?_); refine goesL_ (some 14) rfl rfl Try.func9 (by kernel_rfl) rfl #[] rfl (by (try simp only [List.map_toArray, List.map_cons, List.map_nil]); first | done | rfl | (simp only [List.length_drop, List.length_take]; rfl)) ?_; (with_reducible refine (cantonlaw04_head.calls k  true _ A7.out).mono ?_); rintro e w17 ⟨rfl, hb⟩; refine ⟨_, rfl, ?_⟩; have n0_ := Aside0.mk (below_step (by repeat (first | (with_reducible first | exact HB.out | apply below_alloc | apply pw_below_drewN | apply below_drew1) | exact HB.out)) hb); clear HB; have HB := n0_; clear n0_; (try clear hb); (try clear hb2); (try clear hk); (try clear hi)) | (go_at_call 10; (with_reducible refine (check_Sum.calls k a0 _ _ l1 t112 _ ?side1 ?side2 A11.out).mono ?_); (case side1 => repeat (first | exact (Kd.C_below HR1.out HB.out) | (with_reducible refine Kd.C_alloc ?_ _) | (with_reducible refine Kd.C_drewN ?_ _) | (with_reducible refine Kd.C_drew ?_))); (case side2 => exact HC1.out); rintro e w' ⟨rfl, ⟨nd, rfl⟩⟩) | (go_at_call 11; (with_reducible refine (cantonref04_Sum.calls k a0 _ _ l1 t113 _ ?side1 ?side2 A12.out).mono ?_); (case side1 => repeat (first | exact (Kd.C_below HR1.out (by repeat (first | (with_reducible first | exact HB.out | apply below_alloc | apply pw_below_drewN | apply below_drew1) | exact HB.out))) | (with_reducible refine Kd.C_alloc ?_ _) | (with_reducible refine Kd.C_drewN ?_ _) | (with_reducible refine Kd.C_drew ?_))); (case side2 => exact HC1.out); rintro e w' ⟨rfl, ⟨nd, rfl⟩⟩))
        go_ret
        exact ⟨by first | rfl | (simp [errW_none, errW_some] <;> rfl) | (simp [*, errW_none, errW_some] <;> rfl), by repeat (first | (with_reducible first | exact HB.out | apply below_alloc | apply pw_below_drewN | apply below_drew1) | exact HB.out)⟩
    · replace c10 := Bool.eq_false_iff.mpr c10
      subst c10
      have H1 : (some false) = some r := by rw [if_neg (show ¬ (false = true) by decide)] at H; exact H
      clear H
      have H := H1
      clear H1
      obtain rfl := Option.some.inj H
      go_enter Try.func3, Try.ntmps3
      go_wp2_with (first | ((with_reducible refine gate_callee (f := 9) rfl ?_); refine goesL_ (some 14) rfl rfl Try.func9 (by kernel_rfl) rfl #[] rfl (by (try simp only [List.map_toArray, List.map_cons, List.map_nil]); first | done | rfl | (simp only [List.length_drop, List.length_take]; rfl)) ?_; (with_reducible refine (cantonlaw04_head.calls k  false _ A7.out).mono ?_); rintro e w18 ⟨rfl, hb⟩; refine ⟨_, rfl, ?_⟩; have n0_ := Aside0.mk (below_step (by repeat (first | (with_reducible first | exact HB.out | apply below_alloc | apply pw_below_drewN | apply below_drew1) | exact HB.out)) hb); clear HB; have HB := n0_; clear n0_; (try clear hb); (try clear hb2); (try clear hk); (try clear hi)))
      go_ret
      exact ⟨by first | rfl | (simp [errW_none, errW_some] <;> rfl) | (simp [*, errW_none, errW_some] <;> rfl), by repeat (first | (with_reducible first | exact HB.out | apply below_alloc | apply pw_below_drewN | apply below_drew1) | exact HB.out)⟩

/-- THE ONE PURE STATEMENT of cantonlaw04_CheckTells: yours. -/
def cantonlaw04_CheckTells.Pure : Prop := ∀ (a0 : Int) (l1 : List Int) (a2 : Int) (a3 : Int) (a4 : Int) (a5 : Int), (Lit.int .u16 a0).wf = true → l1.length ≤ maxLen → l1.length * 1 ≤ 140737488351232 → (∀ x ∈ l1, (Lit.int .u8 x).wf = true) → (Lit.int .i64 a2).wf = true → (Lit.int .i64 a3).wf = true → (Lit.int .i64 a4).wf = true → (Lit.int .i64 a5).wf = true → ∃ k, cantonlaw04_CheckTells.f k a0 l1 a2 a3 a4 a5 = some true
theorem cantonlaw04_CheckTells.walk (P : cantonlaw04_CheckTells.Pure) (a0 : Int) (a1 : Option Addr) (len1 cap1 : Nat) (z1 : List Int) (a2 : Int) (a3 : Int) (a4 : Int) (a5 : Int) (w : World) (w0 : (Lit.int .u16 a0).wf = true) (w1 : (a1 = none ∧ len1 = 0 ∧ cap1 = 0 ∧ z1 = []) ∨ ∃ x, a1 = some x ∧ len1 ≤ cap1 ∧ cap1 ≤ maxLen ∧ z1.length = cap1 ∧ (∀ i, i < z1.length → w.cell? (x.add i) = some (.int .u8 (z1.getD i 0))) ∧ ∀ n ∈ z1, (Lit.int .u8 n).wf = true) (y1 : len1 * 1 ≤ 140737488351232) (w2 : (Lit.int .i64 a2).wf = true) (w3 : (Lit.int .i64 a3).wf = true) (w4 : (Lit.int .i64 a4).wf = true) (w5 : (Lit.int .i64 a5).wf = true) :
    Calls Try.prog 3 #[.int .u16 a0, .slice a1 len1 cap1, .int .i64 a2, .int .i64 a3, .int .i64 a4, .int .i64 a5] w fun e w' => e = .returned (.bool true) ∧ Below w.heap.size w w' := by
  obtain ⟨l1, rfl, hr1, hm1, hw1, hc1⟩ := ReadsInt.ofRowC w1
  obtain ⟨k, h⟩ := P a0 l1 a2 a3 a4 a5 w0 hm1 y1 hw1 w2 w3 w4 w5
  refine (cantonlaw04_CheckTells.calls k a0 _ _ l1 a2 a3 a4 a5 true w (Kd.C_of_reads (d := (0 : Int)) (h1 := fun _ => rfl) hr1) hc1 h).mono ?_
  rintro e w' ⟨rfl, hd⟩
  exact ⟨rfl, hd⟩

/-! ### cantonlaw04_CheckChanged: function 4 -/
def cantonlaw04_CheckChanged.j0 : Nat → Int → List Int → Int → Int → Bool → Bool → Option (Bool)
  | 0, _, _, _, _, _, _ => none
  | k + 1, x0, x1, x2, x3, x9, x20 => if x20 = true then (some x9) else (if (x1.length : Int) = 0 then (none) else ((some (([] : List Int) : List Int)).bind fun y117 => (if y117.length + x1.length < 140737488355328 then ((some (y117 ++ x1 : List Int)).bind fun y120 => (if 0 ≤ (Int.tmod (wrap64 (x2)) (x1.length : Int)) then (if (Int.tmod (wrap64 (x2)) (x1.length : Int)) < (y120.length : Int) then (if x9 = true then ((check_Sum.f k x0 (y120.set ((Int.tmod (wrap64 (x2)) (x1.length : Int)) : Int).toNat x3)).bind fun t124 => ((check_Sum.f k x0 x1).bind fun t125 => (if (Int.tmod (wrap64 (x2)) (x1.length : Int)) < (x1.length : Int) then (some ((t124 == t125) == (x3 == (rd x1 (Int.tmod (wrap64 (x2)) (x1.length : Int)))))) else (none)))) else (some false)) else (none)) else (none))) else (none))))
def cantonlaw04_CheckChanged.f (k : Nat) (a0 : Int) (l1 : List Int) (a2 : Int) (a3 : Int) : Option (Bool) := (cantonlaw04_head.f k).bind fun t116 => (if (l1.length : Int) = 0 then (cantonlaw04_CheckChanged.j0 k a0 l1 a2 a3 t116 true) else (cantonlaw04_CheckChanged.j0 k a0 l1 a2 a3 t116 (decide ((l1.length : Int) > 100000))))
theorem cantonlaw04_CheckChanged.mono_l : ∀ k, (∀ y0 y1 y2 y3 y4 y5, LeO (cantonlaw04_CheckChanged.j0 k y0 y1 y2 y3 y4 y5) (cantonlaw04_CheckChanged.j0 (k + 1) y0 y1 y2 y3 y4 y5))
  | 0 => fun _ _ _ _ _ _ r h => by simp [cantonlaw04_CheckChanged.j0] at h
  | k + 1 => by
    have ih0 := cantonlaw04_CheckChanged.mono_l k
    · intro y0 y1 y2 y3 y4 y5
      unfold cantonlaw04_CheckChanged.j0
      repeat' first
      | (with_reducible exact ih0 _ _ _ _ _ _)
      | (with_reducible exact cantonlaw04_head.mono _)
      | (with_reducible exact check_Sum.mono _ _ _)
      | (with_reducible exact LeO.refl _)
      | (with_reducible exact LeO.none _)
      | (with_reducible refine LeO.ite ?_ ?_)
      | (with_reducible refine LeO.bind ?_ (fun _ => ?_))
      | exact ih0 _ _ _ _ _ _
      | exact cantonlaw04_head.mono _
      | exact check_Sum.mono _ _ _
      | exact LeO.none _
      | refine LeO.ite ?_ ?_
      | refine LeO.bind ?_ (fun _ => ?_)
theorem cantonlaw04_CheckChanged.mono : ∀ a0 a1 a2 a3 k, LeO (cantonlaw04_CheckChanged.f k a0 a1 a2 a3) (cantonlaw04_CheckChanged.f (k + 1) a0 a1 a2 a3) := by
  intro a0 a1 a2 a3 k
  have ih0 := cantonlaw04_CheckChanged.mono_l k
  unfold cantonlaw04_CheckChanged.f
  repeat' first
      | (with_reducible exact ih0 _ _ _ _ _ _)
      | (with_reducible exact cantonlaw04_head.mono _)
      | (with_reducible exact check_Sum.mono _ _ _)
      | (with_reducible exact LeO.refl _)
      | (with_reducible exact LeO.none _)
      | (with_reducible refine LeO.ite ?_ ?_)
      | (with_reducible refine LeO.bind ?_ (fun _ => ?_))
      | exact ih0 _ _ _ _ _ _
      | exact cantonlaw04_head.mono _
      | exact check_Sum.mono _ _ _
      | exact LeO.none _
      | refine LeO.ite ?_ ?_
      | refine LeO.bind ?_ (fun _ => ?_)
set_option maxHeartbeats 8000000 in
set_option maxRecDepth 100000 in
theorem cantonlaw04_CheckChanged.calls (k : Nat) (a0 : Int) (A1 : Option Addr) (c1 : Nat) (l1 : List Int) (a2 : Int) (a3 : Int) (r : Bool) (w : World) (hr1 : Kd.C (Kd.int .u8) w A1 l1.length l1) (hc1 : l1.length ≤ c1) (h : cantonlaw04_CheckChanged.f k a0 l1 a2 a3 = some r) :
    Calls Try.prog 4 #[.int .u16 a0, .slice A1 l1.length c1, .int .u16 a2, .int .u8 a3] w fun e w' => e = .returned (.bool r) ∧ Below w.heap.size w w' := by
  have HR1 := Aside0.mk hr1
  have HC1 := Aside0.mk hc1
  clear hr1 hc1
  have HB := Aside0.mk (Below.refl w.heap.size w)
  have H : ((cantonlaw04_head.f k).bind fun t116 => (if (l1.length : Int) = 0 then (cantonlaw04_CheckChanged.j0 k a0 l1 a2 a3 t116 true) else (cantonlaw04_CheckChanged.j0 k a0 l1 a2 a3 t116 (decide ((l1.length : Int) > 100000))))) = some r := h
  clear h
  replace H := Option.bind_eq_some_iff.mp H
  obtain ⟨t116, A50, H⟩ := H
  replace H : (if (l1.length : Int) = 0 then (cantonlaw04_CheckChanged.j0 k a0 l1 a2 a3 t116 true) else (cantonlaw04_CheckChanged.j0 k a0 l1 a2 a3 t116 (decide ((l1.length : Int) > 100000)))) = some r := H
  have A5 := Aside0.mk A50
  clear A50
  have HC6 := Aside0.mk H
  clear H
  go_enter Try.func4, Try.ntmps4
  go_upto_region 2 with (first | (go_at_call 9; (with_reducible refine (cantonlaw04_head.calls k  t116 _ A5.out).mono ?_); rintro e w7 ⟨rfl, hb⟩; have n0_ := Aside0.mk (below_step (by repeat (first | (with_reducible first | exact HB.out | apply below_alloc | apply pw_below_drewN | apply below_drew1) | exact HB.out)) hb); clear HB; have HB := n0_; clear n0_; (try clear hb); (try clear hb2); (try clear hk); (try clear hi)))
  repeat (go_quiet (first | (go_at_call 9; (with_reducible refine (cantonlaw04_head.calls k  t116 _ A5.out).mono ?_); rintro e w7 ⟨rfl, hb⟩; have n0_ := Aside0.mk (below_step (by repeat (first | (with_reducible first | exact HB.out | apply below_alloc | apply pw_below_drewN | apply below_drew1) | exact HB.out)) hb); clear HB; have HB := n0_; clear n0_; (try clear hb); (try clear hb2); (try clear hk); (try clear hi))); go_upto_region 2 with (first | (go_at_call 9; (with_reducible refine (cantonlaw04_head.calls k  t116 _ A5.out).mono ?_); rintro e w7 ⟨rfl, hb⟩; have n0_ := Aside0.mk (below_step (by repeat (first | (with_reducible first | exact HB.out | apply below_alloc | apply pw_below_drewN | apply below_drew1) | exact HB.out)) hb); clear HB; have HB := n0_; clear n0_; (try clear hb); (try clear hb2); (try clear hk); (try clear hi))))
  (try simp only [Act.put, List.setIfInBounds_toArray, List.set_cons_zero, List.set_cons_succ])
  go_cut [20] (fun v20 wc => ∃ (kq : Nat) (x20_5 : Bool), v20 = .bool x20_5 ∧ Aside0 (cantonlaw04_CheckChanged.j0 kq a0 l1 a2 a3 t116 x20_5 = some r) ∧ Aside0 (kq ≤ k) ∧ Aside0 (Below w.heap.size w wc))
  case first =>
    have H := HC6.out
    clear HC6
    by_cases c8 : (l1.length : Int) = 0
    · rw [if_pos c8] at H
      have c8b0 : ((l1.length : Int) == 0) = true := beq_iff_eq.mpr c8
      have c8b1 : ((l1.length : Int) != 0) = false := bne_eq_false_iff_eq.mpr c8
      clear c8
      (first | rw [c8b0] | (simp only [i64_w, i32_w]; rw [c8b0]) | skip)
      have H' := Aside0.mk H
      clear H
      go_wp2
      repeat (go_quiet (fail); try go_wp2)
      go_meet
      case rel => exact ⟨_, (true), (by first | rfl | (simp; done) | (simp [*]; done)), H', ⟨by first | omega | exact Nat.le_refl _⟩, ⟨by repeat (first | (with_reducible first | exact HB.out | apply below_alloc | apply pw_below_drewN | apply below_drew1) | exact HB.out)⟩⟩
    · rw [if_neg c8] at H
      have c8b0 : ((l1.length : Int) == 0) = false := beq_eq_false_iff_ne.mpr c8
      have c8b1 : ((l1.length : Int) != 0) = true := bne_iff_ne.mpr c8
      have c8b2 : ¬ (l1 = []) := fun h_ => c8 (by rw [h_]; rfl)
      (first | rw [c8b0] | (simp only [i64_w, i32_w]; rw [c8b0]) | skip)
      have H' := Aside0.mk H
      clear H
      go_wp2
      repeat (go_quiet (fail); try go_wp2)
      go_meet
      case rel => exact ⟨_, (decide ((l1.length : Int) > 100000)), (by first | rfl | (simp; done) | (simp [*]; done)), H', ⟨by first | omega | exact Nat.le_refl _⟩, ⟨by repeat (first | (with_reducible first | exact HB.out | apply below_alloc | apply pw_below_drewN | apply below_drew1) | exact HB.out)⟩⟩
  case rest =>
    clear HC6
    try clear c1
    try clear p2
    try clear c4
    try clear c8
    try clear c8b0
    try clear c8b1
    try clear c8b2
    obtain ⟨kq, x20_5, rfl, HA, HJ5, HB⟩ := hcut
    cases kq with
    | zero => exact absurd HA.out (by simp [cantonlaw04_CheckChanged.j0])
    | succ kj5 =>
      have H := HA.out
      clear HA
      simp only [cantonlaw04_CheckChanged.j0] at H
      by_cases c9 : x20_5 = true
      · subst c9
        have H1 : (some t116) = some r := by rw [if_pos rfl] at H; exact H
        clear H
        have H := H1
        clear H1
        obtain rfl := Option.some.inj H
        go_wp2
        repeat (go_quiet (fail); try go_wp2)
        go_ret
        exact ⟨by first | rfl | (simp [errW_none, errW_some] <;> rfl) | (simp [*, errW_none, errW_some] <;> rfl), by repeat (first | (with_reducible first | exact HB.out | apply below_alloc | apply pw_below_drewN | apply below_drew1) | exact HB.out)⟩
      · replace c9 := Bool.eq_false_iff.mpr c9
        subst c9
        have H1 : (if (l1.length : Int) = 0 then (none) else ((some (([] : List Int) : List Int)).bind fun y117 => (if y117.length + l1.length < 140737488355328 then ((some (y117 ++ l1 : List Int)).bind fun y120 => (if 0 ≤ (Int.tmod (wrap64 (a2)) (l1.length : Int)) then (if (Int.tmod (wrap64 (a2)) (l1.length : Int)) < (y120.length : Int) then (if t116 = true then ((check_Sum.f kj5 a0 (y120.set ((Int.tmod (wrap64 (a2)) (l1.length : Int)) : Int).toNat a3)).bind fun t124 => ((check_Sum.f kj5 a0 l1).bind fun t125 => (if (Int.tmod (wrap64 (a2)) (l1.length : Int)) < (l1.length : Int) then (some ((t124 == t125) == (a3 == (rd l1 (Int.tmod (wrap64 (a2)) (l1.length : Int)))))) else (none)))) else (some false)) else (none)) else (none))) else (none)))) = some r := by rw [if_neg (show ¬ (false = true) by decide)] at H; exact H
        clear H
        have H := H1
        clear H1
        by_cases c10 : (l1.length : Int) = 0
        · rw [if_pos c10] at H
          exact absurd H (by simp)
        · rw [if_neg c10] at H
          have c10b0 : ((l1.length : Int) == 0) = false := beq_eq_false_iff_ne.mpr c10
          have c10b1 : ((l1.length : Int) != 0) = true := bne_iff_ne.mpr c10
          have c10b2 : ¬ (l1 = []) := fun h_ => c10 (by rw [h_]; rfl)
          obtain ⟨y117, hy117⟩ : ∃ y_ : List Int, y_ = (([] : List Int)) := ⟨_, rfl⟩
          replace H : (if y117.length + l1.length < 140737488355328 then ((some (y117 ++ l1 : List Int)).bind fun y120 => (if 0 ≤ (Int.tmod (wrap64 (a2)) (l1.length : Int)) then (if (Int.tmod (wrap64 (a2)) (l1.length : Int)) < (y120.length : Int) then (if t116 = true then ((check_Sum.f kj5 a0 (y120.set ((Int.tmod (wrap64 (a2)) (l1.length : Int)) : Int).toNat a3)).bind fun t124 => ((check_Sum.f kj5 a0 l1).bind fun t125 => (if (Int.tmod (wrap64 (a2)) (l1.length : Int)) < (l1.length : Int) then (some ((t124 == t125) == (a3 == (rd l1 (Int.tmod (wrap64 (a2)) (l1.length : Int)))))) else (none)))) else (some false)) else (none)) else (none))) else (none)) = some r := by first | (rw [hy117]; with_reducible exact H) | (have H2_ := (Option.bind_some _ _).symm.trans H; rw [hy117]; with_reducible exact H2_) | (have H2_ := (Option.bind_some _ _).symm.trans H; with_reducible exact H2_) | with_reducible exact H | (rw [hy117]; exact H) | exact H
          have Ny117 := Aside0.mk hy117
          clear hy117
          by_cases c11 : y117.length + l1.length < 140737488355328
          · rw [if_pos c11] at H
            have LMc11 := Aside0.mk c11
            clear c11
            obtain ⟨y120, hy120⟩ : ∃ y_ : List Int, y_ = (y117 ++ l1) := ⟨_, rfl⟩
            replace H : (if 0 ≤ (Int.tmod (wrap64 (a2)) (l1.length : Int)) then (if (Int.tmod (wrap64 (a2)) (l1.length : Int)) < (y120.length : Int) then (if t116 = true then ((check_Sum.f kj5 a0 (y120.set ((Int.tmod (wrap64 (a2)) (l1.length : Int)) : Int).toNat a3)).bind fun t124 => ((check_Sum.f kj5 a0 l1).bind fun t125 => (if (Int.tmod (wrap64 (a2)) (l1.length : Int)) < (l1.length : Int) then (some ((t124 == t125) == (a3 == (rd l1 (Int.tmod (wrap64 (a2)) (l1.length : Int)))))) else (none)))) else (some false)) else (none)) else (none)) = some r := by first | (rw [hy120]; with_reducible exact H) | (have H2_ := (Option.bind_some _ _).symm.trans H; rw [hy120]; with_reducible exact H2_) | (have H2_ := (Option.bind_some _ _).symm.trans H; with_reducible exact H2_) | with_reducible exact H | (rw [hy120]; exact H) | exact H
            have Ny120 := Aside0.mk hy120
            clear hy120
            obtain ⟨ji12, hji12⟩ : ∃ j_ : Int, (Int.tmod (wrap64 (a2)) (l1.length : Int)) = j_ := ⟨_, rfl⟩
            replace H : (if 0 ≤ (ji12) then (if (ji12) < (y120.length : Int) then (if t116 = true then ((check_Sum.f kj5 a0 (y120.set ((ji12) : Int).toNat a3)).bind fun t124 => ((check_Sum.f kj5 a0 l1).bind fun t125 => (if (ji12) < (l1.length : Int) then (some ((t124 == t125) == (a3 == (rd l1 (ji12))))) else (none)))) else (some false)) else (none)) else (none)) = some r := by first | (rw [hji12] at H; exact H) | (simp only [hji12] at H ⊢; exact H)
            by_cases c13 : 0 ≤ (ji12)
            · rw [if_pos c13] at H
              have c13b0 : decide (0 ≤ (ji12)) = true := decide_eq_true c13
              clear c13
              by_cases c14 : (ji12) < (y120.length : Int)
              · rw [if_pos c14] at H
                have c14b0 : decide ((ji12) < (y120.length : Int)) = true := decide_eq_true c14
                clear c14
                obtain ⟨y123, hy123⟩ : ∃ y_ : List Int, y_ = (y120.set ((ji12) : Int).toNat a3) := ⟨_, rfl⟩
                replace H : (if t116 = true then ((check_Sum.f kj5 a0 y123).bind fun t124 => ((check_Sum.f kj5 a0 l1).bind fun t125 => (if (ji12) < (l1.length : Int) then (some ((t124 == t125) == (a3 == (rd l1 (ji12))))) else (none)))) else (some false)) = some r := by first | (rw [hy123]; with_reducible exact H) | (have H2_ := (Option.bind_some _ _).symm.trans H; rw [hy123]; with_reducible exact H2_) | (have H2_ := (Option.bind_some _ _).symm.trans H; with_reducible exact H2_) | with_reducible exact H | (rw [hy123]; exact H) | exact H
                have Ny123 := Aside0.mk hy123
                clear hy123
                by_cases c16 : t116 = true
                · subst c16
                  have H1 : ((check_Sum.f kj5 a0 y123).bind fun t124 => ((check_Sum.f kj5 a0 l1).bind fun t125 => (if (ji12) < (l1.length : Int) then (some ((t124 == t125) == (a3 == (rd l1 (ji12))))) else (none)))) = some r := by rw [if_pos rfl] at H; exact H
                  clear H
                  have H := H1
                  clear H1
                  replace H := Option.bind_eq_some_iff.mp H
                  obtain ⟨t124, A170, H⟩ := H
                  replace H : ((check_Sum.f kj5 a0 l1).bind fun t125 => (if (ji12) < (l1.length : Int) then (some ((t124 == t125) == (a3 == (rd l1 (ji12))))) else (none))) = some r := H
                  have A17 := Aside0.mk A170
                  clear A170
                  replace H := Option.bind_eq_some_iff.mp H
                  obtain ⟨t125, A180, H⟩ := H
                  replace H : (if (ji12) < (l1.length : Int) then (some ((t124 == t125) == (a3 == (rd l1 (ji12))))) else (none)) = some r := H
                  have A18 := Aside0.mk A180
                  clear A180
                  by_cases c19 : (ji12) < (l1.length : Int)
                  · rw [if_pos c19] at H
                    have c19b0 : decide ((ji12) < (l1.length : Int)) = true := decide_eq_true c19
                    clear c19
                    obtain rfl := Option.some.inj H
                    go_wp2_with (first | ((with_reducible refine gate_dst (N := 27) rfl ?_); (try (refine gate_guard (by rfl) ?_; dsimp only)); refine Kd.R_lit (Kd.int .u8) _ 5 ?hg (N := 27) ?hd (xs := ([] : List Int)) (inner := []) (ok := fun _ => True) (okp := fun _ => True) ?hr ?hp (fun _ hk => hk) trivial (Below.refl _ _) (Nat.le_refl _) (by simp) ?_; (case hd => rfl); (case hg => rfl); (case hr => first | (go_simp; done) | (go_simp; rfl)); (case hp => exact (Reps.none _ _)); intro v118 w20 ho21 hb hg_ hnew_; clear hg_ hnew_; (first | rw [← Ny117.out] at ho21 | (simp only [Int.reduceToNat] at ho21; rw [← Ny117.out] at ho21)); have n0_ := Aside0.mk (Kd.R_lower ho21 (below_size (by repeat (first | (with_reducible first | exact HB.out | apply below_alloc | apply pw_below_drewN | apply below_drew1) | exact HB.out)))); have n1_ := Aside0.mk (below_step (by repeat (first | (with_reducible first | exact HB.out | apply below_alloc | apply pw_below_drewN | apply below_drew1) | exact HB.out)) hb); clear HB; have HO119 := n0_; have HB := n1_; clear n0_ n1_; clear hb ho21) | ((with_reducible refine gate_builtin (b := .append) (xs := #[.tmp 27, .tmp 28]) rfl ?_); (try (refine gate_guard (by rfl) ?_; dsimp only)); at_builtin; refine Kd.R_append_rows (Kd.int .u8) (w0 := w) w.heap.size rfl (.tmp 27) (.tmp 28) 23 5 (.int .u8 0) 1 rfl Try.underlying23 info5 rfl (by decide) (by omega) v118 y117 l1 _ _ _ (fun _ => True) (fun _ => False) rfl rfl ?aO ?aR (fun _ _ h => h) (fun _ h => h.elim) ?aF ?aB ?aS ?aL ?_; (case aR => repeat (first | exact (Kd.C_below HR1.out HB.out) | (with_reducible refine Kd.C_alloc ?_ _) | (with_reducible refine Kd.C_drewN ?_ _) | (with_reducible refine Kd.C_drew ?_))); (case aB => exact (by repeat (first | (with_reducible first | exact HB.out | apply below_alloc | apply pw_below_drewN | apply below_drew1) | exact HB.out))); (case aF => exact (fun _ _ => trivial)); (case aO => exact (by (with_reducible repeat (first | apply Kd.R_alloc | apply Kd.R_drewN | apply Kd.R_drew)); exact HO119.out)); (case aS => exact (below_size (by repeat (first | (with_reducible first | exact HB.out | apply below_alloc | apply pw_below_drewN | apply below_drew1) | exact HB.out)))); (case aL => have := LMc11.out; omega); intro v121 w22 ho hb hg hat; rw [← Ny120.out] at ho; have n0_ := Aside0.mk (hb); have n1_ := Aside0.mk (ho); clear HB; clear HO119; have HB := n0_; have HO122 := n1_; clear n0_ n1_; clear ho hb hg hat; have p15 : 0 ≤ ((ji12) : Int) := of_decide_eq_true (by first | (with_reducible assumption) | assumption); have q15 : ((ji12) : Int) < ((y120.length : Int) : Int) := of_decide_eq_true (by first | (with_reducible assumption) | assumption); obtain ⟨go15, co15, eo15, gb15, gl15, cl15, HG15⟩ := Kd.R_form HO122.out (by omega); (first | cases eo15 | (injection eo15 with ea_ en_ ec_; (first | subst ea_ | (injection ea_ with ea_; subst ea_)); subst ec_; clear en_)); have GB15 := Aside0.mk gb15; have GG15 := Aside0.mk HG15; clear gb15 gl15 HG15; obtain ⟨hx15_0, hf15_0⟩ := Kd.R_celln 0 HO122.out ((ji12) : Int) p15 q15; replace p15 := eq_true p15; replace q15 := eq_true q15; obtain ⟨hy23_, hz23_⟩ := Kd.R_celln 0 HO122.out ((ji12) : Int) (of_decide_eq_true (by first | (with_reducible assumption) | assumption)) (of_decide_eq_true (by first | (with_reducible assumption) | assumption)); have HP23 := Kd.R_putg HO122.out ((ji12) : Int) a3) | ((with_reducible refine gate_store (t := 5) (p := 33) rfl ?_); (try (rw [drewN_self w22]; generalize hq_ : World.drewN w22 _ = w22; have n0_ := Aside0.mk (Kd.R_at hq_ HO122.out); have n1_ := Aside0.mk (below_at hq_ HB.out); clear hq_ HO122 HB; have HO122 := n0_; have HB := n1_; clear n0_ n1_; (try (obtain ⟨hy23_, hz23_⟩ := Kd.R_celln 0 HO122.out ((ji12) : Int) (of_decide_eq_true (by first | (with_reducible assumption) | assumption)) (of_decide_eq_true (by first | (with_reducible assumption) | assumption)))); (try (have HP23 := Kd.R_putg HO122.out ((ji12) : Int) a3)))); refine store_event (t := 5) (p := 33) (v := ?vo_w24) (w1 := (w22.setCell ⟨go15, ((ji12) : Int).toNat, none⟩ (.int .u8 a3))) ?hg ?ho ?hn ?hr ?_; (case ho => rfl); (case hg => rfl); (case hn => rfl); (case hr => first | (go_simp; done) | (go_simp; rfl)); intro w24 hw; have hg : w22.grownBy w24 (some go15) := (by rw [hw]; exact HP23.2); have hp_ : Kd.R (Kd.int .u8) 5 w24 w.heap.size (fun _ => True) (.slice (some ⟨go15, 0, none⟩) y120.length co15) y123 := (by rw [hw, Ny123.out]; exact HP23.1); clear HP23; have n0_ := Aside0.mk (hp_); have n1_ := Aside0.mk ((by rw [hw]; exact below_set (HB.out) GB15.out : Below w.heap.size w w24)); clear HO122; clear HB; have HO122 := n0_; have HB := n1_; clear n0_ n1_; clear hg hw hp_) | (go_at_call 10; refine calls_of_args (args' := #[.int .u16 a0, .slice (some ⟨go15, 0, none⟩) y123.length co15]) (by first | (rw [show y123.length = y120.length from (Kd.R_reads' HO122.out).1.symm] <;> rfl) | rfl) ?_; (with_reducible refine (check_Sum.calls kj5 a0 _ _ y123 t124 _ ?side1 ?side2 A17.out).mono ?_); (case side1 => repeat (first | exact (Kd.R_reads' HO122.out).2.2 | (with_reducible refine Kd.C_alloc ?_ _) | (with_reducible refine Kd.C_drewN ?_ _) | (with_reducible refine Kd.C_drew ?_))); (case side2 => rw [show y123.length = y120.length from (Kd.R_reads' HO122.out).1.symm]; exact (Kd.R_reads' HO122.out).2.1); rintro e w' ⟨rfl, ⟨nd, rfl⟩⟩; (try first | exact ⟨rfl, _, World.drewN_drewN _ _ _⟩ | exact ⟨rfl, _, Eq.trans (World.drewN_drewN _ _ _) (congrArg (World.drewN _) (Nat.add_assoc _ _ _))⟩)) | (go_at_call 10; (with_reducible refine (check_Sum.calls kj5 a0 _ _ l1 t125 _ ?side1 ?side2 A18.out).mono ?_); (case side1 => repeat (first | exact (Kd.C_below HR1.out (by repeat (first | (with_reducible first | exact HB.out | apply below_alloc | apply pw_below_drewN | apply below_drew1) | exact HB.out))) | (with_reducible refine Kd.C_alloc ?_ _) | (with_reducible refine Kd.C_drewN ?_ _) | (with_reducible refine Kd.C_drew ?_))); (case side2 => exact HC1.out); rintro e w' ⟨rfl, ⟨nd, rfl⟩⟩; (try first | exact ⟨rfl, _, World.drewN_drewN _ _ _⟩ | exact ⟨rfl, _, Eq.trans (World.drewN_drewN _ _ _) (congrArg (World.drewN _) (Nat.add_assoc _ _ _))⟩); have p126 : 0 ≤ ((ji12) : Int) := of_decide_eq_true (by first | (with_reducible assumption) | assumption); have q126 : (ji12) < (l1.length : Int) := of_decide_eq_true (by first | (with_reducible assumption) | assumption); obtain ⟨ad126, e126, hx126_0⟩ := Kd.at_int HR1.out (ji12) p126 q126; cases e126; replace hx126_0 := (HB.out.cell (World.block_lt_of_cell? w _ hx126_0)).trans hx126_0; replace p126 := eq_true p126; replace q126 := eq_true q126))
                    repeat (go_quiet (first | ((with_reducible refine gate_dst (N := 27) rfl ?_); (try (refine gate_guard (by rfl) ?_; dsimp only)); refine Kd.R_lit (Kd.int .u8) _ 5 ?hg (N := 27) ?hd (xs := ([] : List Int)) (inner := []) (ok := fun _ => True) (okp := fun _ => True) ?hr ?hp (fun _ hk => hk) trivial (Below.refl _ _) (Nat.le_refl _) (by simp) ?_; (case hd => rfl); (case hg => rfl); (case hr => first | (go_simp; done) | (go_simp; rfl)); (case hp => exact (Reps.none _ _)); intro v118 w20 ho21 hb hg_ hnew_; clear hg_ hnew_; (first | rw [← Ny117.out] at ho21 | (simp only [Int.reduceToNat] at ho21; rw [← Ny117.out] at ho21)); have n0_ := Aside0.mk (Kd.R_lower ho21 (below_size (by repeat (first | (with_reducible first | exact HB.out | apply below_alloc | apply pw_below_drewN | apply below_drew1) | exact HB.out)))); have n1_ := Aside0.mk (below_step (by repeat (first | (with_reducible first | exact HB.out | apply below_alloc | apply pw_below_drewN | apply below_drew1) | exact HB.out)) hb); clear HB; have HO119 := n0_; have HB := n1_; clear n0_ n1_; clear hb ho21) | ((with_reducible refine gate_builtin (b := .append) (xs := #[.tmp 27, .tmp 28]) rfl ?_); (try (refine gate_guard (by rfl) ?_; dsimp only)); at_builtin; refine Kd.R_append_rows (Kd.int .u8) (w0 := w) w.heap.size rfl (.tmp 27) (.tmp 28) 23 5 (.int .u8 0) 1 rfl Try.underlying23 info5 rfl (by decide) (by omega) v118 y117 l1 _ _ _ (fun _ => True) (fun _ => False) rfl rfl ?aO ?aR (fun _ _ h => h) (fun _ h => h.elim) ?aF ?aB ?aS ?aL ?_; (case aR => repeat (first | exact (Kd.C_below HR1.out HB.out) | (with_reducible refine Kd.C_alloc ?_ _) | (with_reducible refine Kd.C_drewN ?_ _) | (with_reducible refine Kd.C_drew ?_))); (case aB => exact (by repeat (first | (with_reducible first | exact HB.out | apply below_alloc | apply pw_below_drewN | apply below_drew1) | exact HB.out))); (case aF => exact (fun _ _ => trivial)); (case aO => exact (by (with_reducible repeat (first | apply Kd.R_alloc | apply Kd.R_drewN | apply Kd.R_drew)); exact HO119.out)); (case aS => exact (below_size (by repeat (first | (with_reducible first | exact HB.out | apply below_alloc | apply pw_below_drewN | apply below_drew1) | exact HB.out)))); (case aL => have := LMc11.out; omega); intro v121 w22 ho hb hg hat; rw [← Ny120.out] at ho; have n0_ := Aside0.mk (hb); have n1_ := Aside0.mk (ho); clear HB; clear HO119; have HB := n0_; have HO122 := n1_; clear n0_ n1_; clear ho hb hg hat; have p15 : 0 ≤ ((ji12) : Int) := of_decide_eq_true (by first | (with_reducible assumption) | assumption); have q15 : ((ji12) : Int) < ((y120.length : Int) : Int) := of_decide_eq_true (by first | (with_reducible assumption) | assumption); obtain ⟨go15, co15, eo15, gb15, gl15, cl15, HG15⟩ := Kd.R_form HO122.out (by omega); (first | cases eo15 | (injection eo15 with ea_ en_ ec_; (first | subst ea_ | (injection ea_ with ea_; subst ea_)); subst ec_; clear en_)); have GB15 := Aside0.mk gb15; have GG15 := Aside0.mk HG15; clear gb15 gl15 HG15; obtain ⟨hx15_0, hf15_0⟩ := Kd.R_celln 0 HO122.out ((ji12) : Int) p15 q15; replace p15 := eq_true p15; replace q15 := eq_true q15; obtain ⟨hy23_, hz23_⟩ := Kd.R_celln 0 HO122.out ((ji12) : Int) (of_decide_eq_true (by first | (with_reducible assumption) | assumption)) (of_decide_eq_true (by first | (with_reducible assumption) | assumption)); have HP23 := Kd.R_putg HO122.out ((ji12) : Int) a3) | ((with_reducible refine gate_store (t := 5) (p := 33) rfl ?_); (try (rw [drewN_self w22]; generalize hq_ : World.drewN w22 _ = w22; have n0_ := Aside0.mk (Kd.R_at hq_ HO122.out); have n1_ := Aside0.mk (below_at hq_ HB.out); clear hq_ HO122 HB; have HO122 := n0_; have HB := n1_; clear n0_ n1_; (try (obtain ⟨hy23_, hz23_⟩ := Kd.R_celln 0 HO122.out ((ji12) : Int) (of_decide_eq_true (by first | (with_reducible assumption) | assumption)) (of_decide_eq_true (by first | (with_reducible assumption) | assumption)))); (try (have HP23 := Kd.R_putg HO122.out ((ji12) : Int) a3)))); refine store_event (t := 5) (p := 33) (v := ?vo_w24) (w1 := (w22.setCell ⟨go15, ((ji12) : Int).toNat, none⟩ (.int .u8 a3))) ?hg ?ho ?hn ?hr ?_; (case ho => rfl); (case hg => rfl); (case hn => rfl); (case hr => first | (go_simp; done) | (go_simp; rfl)); intro w24 hw; have hg : w22.grownBy w24 (some go15) := (by rw [hw]; exact HP23.2); have hp_ : Kd.R (Kd.int .u8) 5 w24 w.heap.size (fun _ => True) (.slice (some ⟨go15, 0, none⟩) y120.length co15) y123 := (by rw [hw, Ny123.out]; exact HP23.1); clear HP23; have n0_ := Aside0.mk (hp_); have n1_ := Aside0.mk ((by rw [hw]; exact below_set (HB.out) GB15.out : Below w.heap.size w w24)); clear HO122; clear HB; have HO122 := n0_; have HB := n1_; clear n0_ n1_; clear hg hw hp_) | (go_at_call 10; refine calls_of_args (args' := #[.int .u16 a0, .slice (some ⟨go15, 0, none⟩) y123.length co15]) (by first | (rw [show y123.length = y120.length from (Kd.R_reads' HO122.out).1.symm] <;> rfl) | rfl) ?_; (with_reducible refine (check_Sum.calls kj5 a0 _ _ y123 t124 _ ?side1 ?side2 A17.out).mono ?_); (case side1 => repeat (first | exact (Kd.R_reads' HO122.out).2.2 | (with_reducible refine Kd.C_alloc ?_ _) | (with_reducible refine Kd.C_drewN ?_ _) | (with_reducible refine Kd.C_drew ?_))); (case side2 => rw [show y123.length = y120.length from (Kd.R_reads' HO122.out).1.symm]; exact (Kd.R_reads' HO122.out).2.1); rintro e w' ⟨rfl, ⟨nd, rfl⟩⟩; (try first | exact ⟨rfl, _, World.drewN_drewN _ _ _⟩ | exact ⟨rfl, _, Eq.trans (World.drewN_drewN _ _ _) (congrArg (World.drewN _) (Nat.add_assoc _ _ _))⟩)) | (go_at_call 10; (with_reducible refine (check_Sum.calls kj5 a0 _ _ l1 t125 _ ?side1 ?side2 A18.out).mono ?_); (case side1 => repeat (first | exact (Kd.C_below HR1.out (by repeat (first | (with_reducible first | exact HB.out | apply below_alloc | apply pw_below_drewN | apply below_drew1) | exact HB.out))) | (with_reducible refine Kd.C_alloc ?_ _) | (with_reducible refine Kd.C_drewN ?_ _) | (with_reducible refine Kd.C_drew ?_))); (case side2 => exact HC1.out); rintro e w' ⟨rfl, ⟨nd, rfl⟩⟩; (try first | exact ⟨rfl, _, World.drewN_drewN _ _ _⟩ | exact ⟨rfl, _, Eq.trans (World.drewN_drewN _ _ _) (congrArg (World.drewN _) (Nat.add_assoc _ _ _))⟩); have p126 : 0 ≤ ((ji12) : Int) := of_decide_eq_true (by first | (with_reducible assumption) | assumption); have q126 : (ji12) < (l1.length : Int) := of_decide_eq_true (by first | (with_reducible assumption) | assumption); obtain ⟨ad126, e126, hx126_0⟩ := Kd.at_int HR1.out (ji12) p126 q126; cases e126; replace hx126_0 := (HB.out.cell (World.block_lt_of_cell? w _ hx126_0)).trans hx126_0; replace p126 := eq_true p126; replace q126 := eq_true q126)); try go_wp2_with (first | ((with_reducible refine gate_dst (N := 27) rfl ?_); (try (refine gate_guard (by rfl) ?_; dsimp only)); refine Kd.R_lit (Kd.int .u8) _ 5 ?hg (N := 27) ?hd (xs := ([] : List Int)) (inner := []) (ok := fun _ => True) (okp := fun _ => True) ?hr ?hp (fun _ hk => hk) trivial (Below.refl _ _) (Nat.le_refl _) (by simp) ?_; (case hd => rfl); (case hg => rfl); (case hr => first | (go_simp; done) | (go_simp; rfl)); (case hp => exact (Reps.none _ _)); intro v118 w20 ho21 hb hg_ hnew_; clear hg_ hnew_; (first | rw [← Ny117.out] at ho21 | (simp only [Int.reduceToNat] at ho21; rw [← Ny117.out] at ho21)); have n0_ := Aside0.mk (Kd.R_lower ho21 (below_size (by repeat (first | (with_reducible first | exact HB.out | apply below_alloc | apply pw_below_drewN | apply below_drew1) | exact HB.out)))); have n1_ := Aside0.mk (below_step (by repeat (first | (with_reducible first | exact HB.out | apply below_alloc | apply pw_below_drewN | apply below_drew1) | exact HB.out)) hb); clear HB; have HO119 := n0_; have HB := n1_; clear n0_ n1_; clear hb ho21) | ((with_reducible refine gate_builtin (b := .append) (xs := #[.tmp 27, .tmp 28]) rfl ?_); (try (refine gate_guard (by rfl) ?_; dsimp only)); at_builtin; refine Kd.R_append_rows (Kd.int .u8) (w0 := w) w.heap.size rfl (.tmp 27) (.tmp 28) 23 5 (.int .u8 0) 1 rfl Try.underlying23 info5 rfl (by decide) (by omega) v118 y117 l1 _ _ _ (fun _ => True) (fun _ => False) rfl rfl ?aO ?aR (fun _ _ h => h) (fun _ h => h.elim) ?aF ?aB ?aS ?aL ?_; (case aR => repeat (first | exact (Kd.C_below HR1.out HB.out) | (with_reducible refine Kd.C_alloc ?_ _) | (with_reducible refine Kd.C_drewN ?_ _) | (with_reducible refine Kd.C_drew ?_))); (case aB => exact (by repeat (first | (with_reducible first | exact HB.out | apply below_alloc | apply pw_below_drewN | apply below_drew1) | exact HB.out))); (case aF => exact (fun _ _ => trivial)); (case aO => exact (by (with_reducible repeat (first | apply Kd.R_alloc | apply Kd.R_drewN | apply Kd.R_drew)); exact HO119.out)); (case aS => exact (below_size (by repeat (first | (with_reducible first | exact HB.out | apply below_alloc | apply pw_below_drewN | apply below_drew1) | exact HB.out)))); (case aL => have := LMc11.out; omega); intro v121 w22 ho hb hg hat; rw [← Ny120.out] at ho; have n0_ := Aside0.mk (hb); have n1_ := Aside0.mk (ho); clear HB; clear HO119; have HB := n0_; have HO122 := n1_; clear n0_ n1_; clear ho hb hg hat; have p15 : 0 ≤ ((ji12) : Int) := of_decide_eq_true (by first | (with_reducible assumption) | assumption); have q15 : ((ji12) : Int) < ((y120.length : Int) : Int) := of_decide_eq_true (by first | (with_reducible assumption) | assumption); obtain ⟨go15, co15, eo15, gb15, gl15, cl15, HG15⟩ := Kd.R_form HO122.out (by omega); (first | cases eo15 | (injection eo15 with ea_ en_ ec_; (first | subst ea_ | (injection ea_ with ea_; subst ea_)); subst ec_; clear en_)); have GB15 := Aside0.mk gb15; have GG15 := Aside0.mk HG15; clear gb15 gl15 HG15; obtain ⟨hx15_0, hf15_0⟩ := Kd.R_celln 0 HO122.out ((ji12) : Int) p15 q15; replace p15 := eq_true p15; replace q15 := eq_true q15; obtain ⟨hy23_, hz23_⟩ := Kd.R_celln 0 HO122.out ((ji12) : Int) (of_decide_eq_true (by first | (with_reducible assumption) | assumption)) (of_decide_eq_true (by first | (with_reducible assumption) | assumption)); have HP23 := Kd.R_putg HO122.out ((ji12) : Int) a3) | ((with_reducible refine gate_store (t := 5) (p := 33) rfl ?_); (try (rw [drewN_self w22]; generalize hq_ : World.drewN w22 _ = w22; have n0_ := Aside0.mk (Kd.R_at hq_ HO122.out); have n1_ := Aside0.mk (below_at hq_ HB.out); clear hq_ HO122 HB; have HO122 := n0_; have HB := n1_; clear n0_ n1_; (try (obtain ⟨hy23_, hz23_⟩ := Kd.R_celln 0 HO122.out ((ji12) : Int) (of_decide_eq_true (by first | (with_reducible assumption) | assumption)) (of_decide_eq_true (by first | (with_reducible assumption) | assumption)))); (try (have HP23 := Kd.R_putg HO122.out ((ji12) : Int) a3)))); refine store_event (t := 5) (p := 33) (v := ?vo_w24) (w1 := (w22.setCell ⟨go15, ((ji12) : Int).toNat, none⟩ (.int .u8 a3))) ?hg ?ho ?hn ?hr ?_; (case ho => rfl); (case hg => rfl); (case hn => rfl); (case hr => first | (go_simp; done) | (go_simp; rfl)); intro w24 hw; have hg : w22.grownBy w24 (some go15) := (by rw [hw]; exact HP23.2); have hp_ : Kd.R (Kd.int .u8) 5 w24 w.heap.size (fun _ => True) (.slice (some ⟨go15, 0, none⟩) y120.length co15) y123 := (by rw [hw, Ny123.out]; exact HP23.1); clear HP23; have n0_ := Aside0.mk (hp_); have n1_ := Aside0.mk ((by rw [hw]; exact below_set (HB.out) GB15.out : Below w.heap.size w w24)); clear HO122; clear HB; have HO122 := n0_; have HB := n1_; clear n0_ n1_; clear hg hw hp_) | (go_at_call 10; refine calls_of_args (args' := #[.int .u16 a0, .slice (some ⟨go15, 0, none⟩) y123.length co15]) (by first | (rw [show y123.length = y120.length from (Kd.R_reads' HO122.out).1.symm] <;> rfl) | rfl) ?_; (with_reducible refine (check_Sum.calls kj5 a0 _ _ y123 t124 _ ?side1 ?side2 A17.out).mono ?_); (case side1 => repeat (first | exact (Kd.R_reads' HO122.out).2.2 | (with_reducible refine Kd.C_alloc ?_ _) | (with_reducible refine Kd.C_drewN ?_ _) | (with_reducible refine Kd.C_drew ?_))); (case side2 => rw [show y123.length = y120.length from (Kd.R_reads' HO122.out).1.symm]; exact (Kd.R_reads' HO122.out).2.1); rintro e w' ⟨rfl, ⟨nd, rfl⟩⟩; (try first | exact ⟨rfl, _, World.drewN_drewN _ _ _⟩ | exact ⟨rfl, _, Eq.trans (World.drewN_drewN _ _ _) (congrArg (World.drewN _) (Nat.add_assoc _ _ _))⟩)) | (go_at_call 10; (with_reducible refine (check_Sum.calls kj5 a0 _ _ l1 t125 _ ?side1 ?side2 A18.out).mono ?_); (case side1 => repeat (first | exact (Kd.C_below HR1.out (by repeat (first | (with_reducible first | exact HB.out | apply below_alloc | apply pw_below_drewN | apply below_drew1) | exact HB.out))) | (with_reducible refine Kd.C_alloc ?_ _) | (with_reducible refine Kd.C_drewN ?_ _) | (with_reducible refine Kd.C_drew ?_))); (case side2 => exact HC1.out); rintro e w' ⟨rfl, ⟨nd, rfl⟩⟩; (try first | exact ⟨rfl, _, World.drewN_drewN _ _ _⟩ | exact ⟨rfl, _, Eq.trans (World.drewN_drewN _ _ _) (congrArg (World.drewN _) (Nat.add_assoc _ _ _))⟩); have p126 : 0 ≤ ((ji12) : Int) := of_decide_eq_true (by first | (with_reducible assumption) | assumption); have q126 : (ji12) < (l1.length : Int) := of_decide_eq_true (by first | (with_reducible assumption) | assumption); obtain ⟨ad126, e126, hx126_0⟩ := Kd.at_int HR1.out (ji12) p126 q126; cases e126; replace hx126_0 := (HB.out.cell (World.block_lt_of_cell? w _ hx126_0)).trans hx126_0; replace p126 := eq_true p126; replace q126 := eq_true q126)))
                    go_ret
                    exact ⟨by first | rfl | (simp [errW_none, errW_some] <;> rfl) | (simp only [← hji12]; first | rfl | (simp [errW_none, errW_some] <;> rfl)) | (simp [*, errW_none, errW_some] <;> rfl), by repeat (first | (with_reducible first | exact HB.out | apply below_alloc | apply pw_below_drewN | apply below_drew1) | exact HB.out)⟩
                  · rw [if_neg c19] at H
                    exact absurd H (by simp)
                · replace c16 := Bool.eq_false_iff.mpr c16
                  subst c16
                  have H1 : (some false) = some r := by rw [if_neg (show ¬ (false = true) by decide)] at H; exact H
                  clear H
                  have H := H1
                  clear H1
                  obtain rfl := Option.some.inj H
                  go_wp2_with (first | ((with_reducible refine gate_dst (N := 27) rfl ?_); (try (refine gate_guard (by rfl) ?_; dsimp only)); refine Kd.R_lit (Kd.int .u8) _ 5 ?hg (N := 27) ?hd (xs := ([] : List Int)) (inner := []) (ok := fun _ => True) (okp := fun _ => True) ?hr ?hp (fun _ hk => hk) trivial (Below.refl _ _) (Nat.le_refl _) (by simp) ?_; (case hd => rfl); (case hg => rfl); (case hr => first | (go_simp; done) | (go_simp; rfl)); (case hp => exact (Reps.none _ _)); intro v118 w25 ho26 hb hg_ hnew_; clear hg_ hnew_; (first | rw [← Ny117.out] at ho26 | (simp only [Int.reduceToNat] at ho26; rw [← Ny117.out] at ho26)); have n0_ := Aside0.mk (Kd.R_lower ho26 (below_size (by repeat (first | (with_reducible first | exact HB.out | apply below_alloc | apply pw_below_drewN | apply below_drew1) | exact HB.out)))); have n1_ := Aside0.mk (below_step (by repeat (first | (with_reducible first | exact HB.out | apply below_alloc | apply pw_below_drewN | apply below_drew1) | exact HB.out)) hb); clear HB; have HO119 := n0_; have HB := n1_; clear n0_ n1_; clear hb ho26) | ((with_reducible refine gate_builtin (b := .append) (xs := #[.tmp 27, .tmp 28]) rfl ?_); (try (refine gate_guard (by rfl) ?_; dsimp only)); at_builtin; refine Kd.R_append_rows (Kd.int .u8) (w0 := w) w.heap.size rfl (.tmp 27) (.tmp 28) 23 5 (.int .u8 0) 1 rfl Try.underlying23 info5 rfl (by decide) (by omega) v118 y117 l1 _ _ _ (fun _ => True) (fun _ => False) rfl rfl ?aO ?aR (fun _ _ h => h) (fun _ h => h.elim) ?aF ?aB ?aS ?aL ?_; (case aR => repeat (first | exact (Kd.C_below HR1.out HB.out) | (with_reducible refine Kd.C_alloc ?_ _) | (with_reducible refine Kd.C_drewN ?_ _) | (with_reducible refine Kd.C_drew ?_))); (case aB => exact (by repeat (first | (with_reducible first | exact HB.out | apply below_alloc | apply pw_below_drewN | apply below_drew1) | exact HB.out))); (case aF => exact (fun _ _ => trivial)); (case aO => exact (by (with_reducible repeat (first | apply Kd.R_alloc | apply Kd.R_drewN | apply Kd.R_drew)); exact HO119.out)); (case aS => exact (below_size (by repeat (first | (with_reducible first | exact HB.out | apply below_alloc | apply pw_below_drewN | apply below_drew1) | exact HB.out)))); (case aL => have := LMc11.out; omega); intro v121 w27 ho hb hg hat; rw [← Ny120.out] at ho; have n0_ := Aside0.mk (hb); have n1_ := Aside0.mk (ho); clear HB; clear HO119; have HB := n0_; have HO122 := n1_; clear n0_ n1_; clear ho hb hg hat; have p15 : 0 ≤ ((ji12) : Int) := of_decide_eq_true (by first | (with_reducible assumption) | assumption); have q15 : ((ji12) : Int) < ((y120.length : Int) : Int) := of_decide_eq_true (by first | (with_reducible assumption) | assumption); obtain ⟨go15, co15, eo15, gb15, gl15, cl15, HG15⟩ := Kd.R_form HO122.out (by omega); (first | cases eo15 | (injection eo15 with ea_ en_ ec_; (first | subst ea_ | (injection ea_ with ea_; subst ea_)); subst ec_; clear en_)); have GB15 := Aside0.mk gb15; have GG15 := Aside0.mk HG15; clear gb15 gl15 HG15; obtain ⟨hx15_0, hf15_0⟩ := Kd.R_celln 0 HO122.out ((ji12) : Int) p15 q15; replace p15 := eq_true p15; replace q15 := eq_true q15; obtain ⟨hy28_, hz28_⟩ := Kd.R_celln 0 HO122.out ((ji12) : Int) (of_decide_eq_true (by first | (with_reducible assumption) | assumption)) (of_decide_eq_true (by first | (with_reducible assumption) | assumption)); have HP28 := Kd.R_putg HO122.out ((ji12) : Int) a3) | ((with_reducible refine gate_store (t := 5) (p := 33) rfl ?_); (try (rw [drewN_self w27]; generalize hq_ : World.drewN w27 _ = w27; have n0_ := Aside0.mk (Kd.R_at hq_ HO122.out); have n1_ := Aside0.mk (below_at hq_ HB.out); clear hq_ HO122 HB; have HO122 := n0_; have HB := n1_; clear n0_ n1_; (try (obtain ⟨hy28_, hz28_⟩ := Kd.R_celln 0 HO122.out ((ji12) : Int) (of_decide_eq_true (by first | (with_reducible assumption) | assumption)) (of_decide_eq_true (by first | (with_reducible assumption) | assumption)))); (try (have HP28 := Kd.R_putg HO122.out ((ji12) : Int) a3)))); refine store_event (t := 5) (p := 33) (v := ?vo_w29) (w1 := (w27.setCell ⟨go15, ((ji12) : Int).toNat, none⟩ (.int .u8 a3))) ?hg ?ho ?hn ?hr ?_; (case ho => rfl); (case hg => rfl); (case hn => rfl); (case hr => first | (go_simp; done) | (go_simp; rfl)); intro w29 hw; have hg : w27.grownBy w29 (some go15) := (by rw [hw]; exact HP28.2); have hp_ : Kd.R (Kd.int .u8) 5 w29 w.heap.size (fun _ => True) (.slice (some ⟨go15, 0, none⟩) y120.length co15) y123 := (by rw [hw, Ny123.out]; exact HP28.1); clear HP28; have n0_ := Aside0.mk (hp_); have n1_ := Aside0.mk ((by rw [hw]; exact below_set (HB.out) GB15.out : Below w.heap.size w w29)); clear HO122; clear HB; have HO122 := n0_; have HB := n1_; clear n0_ n1_; clear hg hw hp_))
                  repeat (go_quiet (first | ((with_reducible refine gate_dst (N := 27) rfl ?_); (try (refine gate_guard (by rfl) ?_; dsimp only)); refine Kd.R_lit (Kd.int .u8) _ 5 ?hg (N := 27) ?hd (xs := ([] : List Int)) (inner := []) (ok := fun _ => True) (okp := fun _ => True) ?hr ?hp (fun _ hk => hk) trivial (Below.refl _ _) (Nat.le_refl _) (by simp) ?_; (case hd => rfl); (case hg => rfl); (case hr => first | (go_simp; done) | (go_simp; rfl)); (case hp => exact (Reps.none _ _)); intro v118 w25 ho26 hb hg_ hnew_; clear hg_ hnew_; (first | rw [← Ny117.out] at ho26 | (simp only [Int.reduceToNat] at ho26; rw [← Ny117.out] at ho26)); have n0_ := Aside0.mk (Kd.R_lower ho26 (below_size (by repeat (first | (with_reducible first | exact HB.out | apply below_alloc | apply pw_below_drewN | apply below_drew1) | exact HB.out)))); have n1_ := Aside0.mk (below_step (by repeat (first | (with_reducible first | exact HB.out | apply below_alloc | apply pw_below_drewN | apply below_drew1) | exact HB.out)) hb); clear HB; have HO119 := n0_; have HB := n1_; clear n0_ n1_; clear hb ho26) | ((with_reducible refine gate_builtin (b := .append) (xs := #[.tmp 27, .tmp 28]) rfl ?_); (try (refine gate_guard (by rfl) ?_; dsimp only)); at_builtin; refine Kd.R_append_rows (Kd.int .u8) (w0 := w) w.heap.size rfl (.tmp 27) (.tmp 28) 23 5 (.int .u8 0) 1 rfl Try.underlying23 info5 rfl (by decide) (by omega) v118 y117 l1 _ _ _ (fun _ => True) (fun _ => False) rfl rfl ?aO ?aR (fun _ _ h => h) (fun _ h => h.elim) ?aF ?aB ?aS ?aL ?_; (case aR => repeat (first | exact (Kd.C_below HR1.out HB.out) | (with_reducible refine Kd.C_alloc ?_ _) | (with_reducible refine Kd.C_drewN ?_ _) | (with_reducible refine Kd.C_drew ?_))); (case aB => exact (by repeat (first | (with_reducible first | exact HB.out | apply below_alloc | apply pw_below_drewN | apply below_drew1) | exact HB.out))); (case aF => exact (fun _ _ => trivial)); (case aO => exact (by (with_reducible repeat (first | apply Kd.R_alloc | apply Kd.R_drewN | apply Kd.R_drew)); exact HO119.out)); (case aS => exact (below_size (by repeat (first | (with_reducible first | exact HB.out | apply below_alloc | apply pw_below_drewN | apply below_drew1) | exact HB.out)))); (case aL => have := LMc11.out; omega); intro v121 w27 ho hb hg hat; rw [← Ny120.out] at ho; have n0_ := Aside0.mk (hb); have n1_ := Aside0.mk (ho); clear HB; clear HO119; have HB := n0_; have HO122 := n1_; clear n0_ n1_; clear ho hb hg hat; have p15 : 0 ≤ ((ji12) : Int) := of_decide_eq_true (by first | (with_reducible assumption) | assumption); have q15 : ((ji12) : Int) < ((y120.length : Int) : Int) := of_decide_eq_true (by first | (with_reducible assumption) | assumption); obtain ⟨go15, co15, eo15, gb15, gl15, cl15, HG15⟩ := Kd.R_form HO122.out (by omega); (first | cases eo15 | (injection eo15 with ea_ en_ ec_; (first | subst ea_ | (injection ea_ with ea_; subst ea_)); subst ec_; clear en_)); have GB15 := Aside0.mk gb15; have GG15 := Aside0.mk HG15; clear gb15 gl15 HG15; obtain ⟨hx15_0, hf15_0⟩ := Kd.R_celln 0 HO122.out ((ji12) : Int) p15 q15; replace p15 := eq_true p15; replace q15 := eq_true q15; obtain ⟨hy28_, hz28_⟩ := Kd.R_celln 0 HO122.out ((ji12) : Int) (of_decide_eq_true (by first | (with_reducible assumption) | assumption)) (of_decide_eq_true (by first | (with_reducible assumption) | assumption)); have HP28 := Kd.R_putg HO122.out ((ji12) : Int) a3) | ((with_reducible refine gate_store (t := 5) (p := 33) rfl ?_); (try (rw [drewN_self w27]; generalize hq_ : World.drewN w27 _ = w27; have n0_ := Aside0.mk (Kd.R_at hq_ HO122.out); have n1_ := Aside0.mk (below_at hq_ HB.out); clear hq_ HO122 HB; have HO122 := n0_; have HB := n1_; clear n0_ n1_; (try (obtain ⟨hy28_, hz28_⟩ := Kd.R_celln 0 HO122.out ((ji12) : Int) (of_decide_eq_true (by first | (with_reducible assumption) | assumption)) (of_decide_eq_true (by first | (with_reducible assumption) | assumption)))); (try (have HP28 := Kd.R_putg HO122.out ((ji12) : Int) a3)))); refine store_event (t := 5) (p := 33) (v := ?vo_w29) (w1 := (w27.setCell ⟨go15, ((ji12) : Int).toNat, none⟩ (.int .u8 a3))) ?hg ?ho ?hn ?hr ?_; (case ho => rfl); (case hg => rfl); (case hn => rfl); (case hr => first | (go_simp; done) | (go_simp; rfl)); intro w29 hw; have hg : w27.grownBy w29 (some go15) := (by rw [hw]; exact HP28.2); have hp_ : Kd.R (Kd.int .u8) 5 w29 w.heap.size (fun _ => True) (.slice (some ⟨go15, 0, none⟩) y120.length co15) y123 := (by rw [hw, Ny123.out]; exact HP28.1); clear HP28; have n0_ := Aside0.mk (hp_); have n1_ := Aside0.mk ((by rw [hw]; exact below_set (HB.out) GB15.out : Below w.heap.size w w29)); clear HO122; clear HB; have HO122 := n0_; have HB := n1_; clear n0_ n1_; clear hg hw hp_)); try go_wp2_with (first | ((with_reducible refine gate_dst (N := 27) rfl ?_); (try (refine gate_guard (by rfl) ?_; dsimp only)); refine Kd.R_lit (Kd.int .u8) _ 5 ?hg (N := 27) ?hd (xs := ([] : List Int)) (inner := []) (ok := fun _ => True) (okp := fun _ => True) ?hr ?hp (fun _ hk => hk) trivial (Below.refl _ _) (Nat.le_refl _) (by simp) ?_; (case hd => rfl); (case hg => rfl); (case hr => first | (go_simp; done) | (go_simp; rfl)); (case hp => exact (Reps.none _ _)); intro v118 w25 ho26 hb hg_ hnew_; clear hg_ hnew_; (first | rw [← Ny117.out] at ho26 | (simp only [Int.reduceToNat] at ho26; rw [← Ny117.out] at ho26)); have n0_ := Aside0.mk (Kd.R_lower ho26 (below_size (by repeat (first | (with_reducible first | exact HB.out | apply below_alloc | apply pw_below_drewN | apply below_drew1) | exact HB.out)))); have n1_ := Aside0.mk (below_step (by repeat (first | (with_reducible first | exact HB.out | apply below_alloc | apply pw_below_drewN | apply below_drew1) | exact HB.out)) hb); clear HB; have HO119 := n0_; have HB := n1_; clear n0_ n1_; clear hb ho26) | ((with_reducible refine gate_builtin (b := .append) (xs := #[.tmp 27, .tmp 28]) rfl ?_); (try (refine gate_guard (by rfl) ?_; dsimp only)); at_builtin; refine Kd.R_append_rows (Kd.int .u8) (w0 := w) w.heap.size rfl (.tmp 27) (.tmp 28) 23 5 (.int .u8 0) 1 rfl Try.underlying23 info5 rfl (by decide) (by omega) v118 y117 l1 _ _ _ (fun _ => True) (fun _ => False) rfl rfl ?aO ?aR (fun _ _ h => h) (fun _ h => h.elim) ?aF ?aB ?aS ?aL ?_; (case aR => repeat (first | exact (Kd.C_below HR1.out HB.out) | (with_reducible refine Kd.C_alloc ?_ _) | (with_reducible refine Kd.C_drewN ?_ _) | (with_reducible refine Kd.C_drew ?_))); (case aB => exact (by repeat (first | (with_reducible first | exact HB.out | apply below_alloc | apply pw_below_drewN | apply below_drew1) | exact HB.out))); (case aF => exact (fun _ _ => trivial)); (case aO => exact (by (with_reducible repeat (first | apply Kd.R_alloc | apply Kd.R_drewN | apply Kd.R_drew)); exact HO119.out)); (case aS => exact (below_size (by repeat (first | (with_reducible first | exact HB.out | apply below_alloc | apply pw_below_drewN | apply below_drew1) | exact HB.out)))); (case aL => have := LMc11.out; omega); intro v121 w27 ho hb hg hat; rw [← Ny120.out] at ho; have n0_ := Aside0.mk (hb); have n1_ := Aside0.mk (ho); clear HB; clear HO119; have HB := n0_; have HO122 := n1_; clear n0_ n1_; clear ho hb hg hat; have p15 : 0 ≤ ((ji12) : Int) := of_decide_eq_true (by first | (with_reducible assumption) | assumption); have q15 : ((ji12) : Int) < ((y120.length : Int) : Int) := of_decide_eq_true (by first | (with_reducible assumption) | assumption); obtain ⟨go15, co15, eo15, gb15, gl15, cl15, HG15⟩ := Kd.R_form HO122.out (by omega); (first | cases eo15 | (injection eo15 with ea_ en_ ec_; (first | subst ea_ | (injection ea_ with ea_; subst ea_)); subst ec_; clear en_)); have GB15 := Aside0.mk gb15; have GG15 := Aside0.mk HG15; clear gb15 gl15 HG15; obtain ⟨hx15_0, hf15_0⟩ := Kd.R_celln 0 HO122.out ((ji12) : Int) p15 q15; replace p15 := eq_true p15; replace q15 := eq_true q15; obtain ⟨hy28_, hz28_⟩ := Kd.R_celln 0 HO122.out ((ji12) : Int) (of_decide_eq_true (by first | (with_reducible assumption) | assumption)) (of_decide_eq_true (by first | (with_reducible assumption) | assumption)); have HP28 := Kd.R_putg HO122.out ((ji12) : Int) a3) | ((with_reducible refine gate_store (t := 5) (p := 33) rfl ?_); (try (rw [drewN_self w27]; generalize hq_ : World.drewN w27 _ = w27; have n0_ := Aside0.mk (Kd.R_at hq_ HO122.out); have n1_ := Aside0.mk (below_at hq_ HB.out); clear hq_ HO122 HB; have HO122 := n0_; have HB := n1_; clear n0_ n1_; (try (obtain ⟨hy28_, hz28_⟩ := Kd.R_celln 0 HO122.out ((ji12) : Int) (of_decide_eq_true (by first | (with_reducible assumption) | assumption)) (of_decide_eq_true (by first | (with_reducible assumption) | assumption)))); (try (have HP28 := Kd.R_putg HO122.out ((ji12) : Int) a3)))); refine store_event (t := 5) (p := 33) (v := ?vo_w29) (w1 := (w27.setCell ⟨go15, ((ji12) : Int).toNat, none⟩ (.int .u8 a3))) ?hg ?ho ?hn ?hr ?_; (case ho => rfl); (case hg => rfl); (case hn => rfl); (case hr => first | (go_simp; done) | (go_simp; rfl)); intro w29 hw; have hg : w27.grownBy w29 (some go15) := (by rw [hw]; exact HP28.2); have hp_ : Kd.R (Kd.int .u8) 5 w29 w.heap.size (fun _ => True) (.slice (some ⟨go15, 0, none⟩) y120.length co15) y123 := (by rw [hw, Ny123.out]; exact HP28.1); clear HP28; have n0_ := Aside0.mk (hp_); have n1_ := Aside0.mk ((by rw [hw]; exact below_set (HB.out) GB15.out : Below w.heap.size w w29)); clear HO122; clear HB; have HO122 := n0_; have HB := n1_; clear n0_ n1_; clear hg hw hp_)))
                  go_ret
                  exact ⟨by first | rfl | (simp [errW_none, errW_some] <;> rfl) | (simp only [← hji12]; first | rfl | (simp [errW_none, errW_some] <;> rfl)) | (simp [*, errW_none, errW_some] <;> rfl), by repeat (first | (with_reducible first | exact HB.out | apply below_alloc | apply pw_below_drewN | apply below_drew1) | exact HB.out)⟩
              · rw [if_neg c14] at H
                exact absurd H (by simp)
            · rw [if_neg c13] at H
              exact absurd H (by simp)
          · rw [if_neg c11] at H
            exact absurd H (by simp)

/-- THE ONE PURE STATEMENT of cantonlaw04_CheckChanged: yours. -/
def cantonlaw04_CheckChanged.Pure : Prop := ∀ (a0 : Int) (l1 : List Int) (a2 : Int) (a3 : Int), (Lit.int .u16 a0).wf = true → l1.length ≤ maxLen → l1.length * 1 ≤ 140737488351232 → (∀ x ∈ l1, (Lit.int .u8 x).wf = true) → (Lit.int .u16 a2).wf = true → (Lit.int .u8 a3).wf = true → ∃ k, cantonlaw04_CheckChanged.f k a0 l1 a2 a3 = some true
theorem cantonlaw04_CheckChanged.walk (P : cantonlaw04_CheckChanged.Pure) (a0 : Int) (a1 : Option Addr) (len1 cap1 : Nat) (z1 : List Int) (a2 : Int) (a3 : Int) (w : World) (w0 : (Lit.int .u16 a0).wf = true) (w1 : (a1 = none ∧ len1 = 0 ∧ cap1 = 0 ∧ z1 = []) ∨ ∃ x, a1 = some x ∧ len1 ≤ cap1 ∧ cap1 ≤ maxLen ∧ z1.length = cap1 ∧ (∀ i, i < z1.length → w.cell? (x.add i) = some (.int .u8 (z1.getD i 0))) ∧ ∀ n ∈ z1, (Lit.int .u8 n).wf = true) (y1 : len1 * 1 ≤ 140737488351232) (w2 : (Lit.int .u16 a2).wf = true) (w3 : (Lit.int .u8 a3).wf = true) :
    Calls Try.prog 4 #[.int .u16 a0, .slice a1 len1 cap1, .int .u16 a2, .int .u8 a3] w fun e w' => e = .returned (.bool true) ∧ Below w.heap.size w w' := by
  obtain ⟨l1, rfl, hr1, hm1, hw1, hc1⟩ := ReadsInt.ofRowC w1
  obtain ⟨k, h⟩ := P a0 l1 a2 a3 w0 hm1 y1 hw1 w2 w3
  refine (cantonlaw04_CheckChanged.calls k a0 _ _ l1 a2 a3 true w (Kd.C_of_reads (d := (0 : Int)) (h1 := fun _ => rfl) hr1) hc1 h).mono ?_
  rintro e w' ⟨rfl, hd⟩
  exact ⟨rfl, hd⟩

end Go.Proofs.Ytpmkegkgaalfhaa.Q
