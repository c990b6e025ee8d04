-- Written by a program of this session (xprint) out of the translation; over contracts proved by hand.
import Derived.Test.YtopgenipifhjfaaDoorQx0
import Derived.Test.YtopgenipifhjfaaDoorQx2
import Derived.Test.YtopgenipifhjfaaDoorQx3
namespace Go.Proofs.YtopgenipifhjfaaDoor.Itoa
end Go.Proofs.YtopgenipifhjfaaDoor.Itoa
namespace Go.Proofs.YtopgenipifhjfaaDoor.Split
end Go.Proofs.YtopgenipifhjfaaDoor.Split
namespace Go.Proofs.YtopgenipifhjfaaDoor.Q
open Go.Proofs.YtopgenipifhjfaaDoor.Itoa Go.Proofs.YtopgenipifhjfaaDoor.Split
set_option linter.unnecessarySimpa false
open Go.RowKit Go.Proofs.YtopgenipifhjfaaDoorW.PrintWords Go.Proofs.YtopgenipifhjfaaDoorW.PrintLast Go.Proofs.YtopgenipifhjfaaDoorW.PrintMore
attribute [local go_sem] max2_int min2_int max_two min_two max_three min_three max_four min_four   -- for this text's walks alone
set_option linter.unusedVariables false
set_option linter.unusedSimpArgs false

/-! ### cantonref01_Join: function 20 -/
def cantonref01_Join.f (k : Nat) (a0 : ByteArray) (a1 : ByteArray) : Option (ByteArray × Bool) := (cantonref01_Split.f k a0).bind fun bt172 => (if bt172.2 = true then ((cantonref01_Part.f k a1).bind fun t176 => (if t176 = true then (if (bt172.1.length : Int) ≥ 6 then (some ((⟨#[]⟩ : ByteArray), false)) else ((some (([] : List ByteArray) : List ByteArray)).bind fun y177 => (if y177.length + bt172.1.length < 8796093022208 then ((some (y177 ++ bt172.1 : List ByteArray)).bind fun y180 => (if y180.length < 8796093022208 then ((cantonref01_path.f k (y180 ++ [a1])).bind fun t186 => (some (t186, true))) else (none))) else (none)))) else (some ((⟨#[]⟩ : ByteArray), false)))) else (some ((⟨#[]⟩ : ByteArray), false)))
theorem cantonref01_Join.mono : ∀ a0 a1 k, LeO (cantonref01_Join.f k a0 a1) (cantonref01_Join.f (k + 1) a0 a1) := by
  intro a0 a1 k
  unfold cantonref01_Join.f
  repeat' first
      | (with_reducible exact cantonref01_Part.mono _ _)
      | (with_reducible exact cantonref01_Split.mono _ _)
      | (with_reducible exact cantonref01_path.mono _ _)
      | (with_reducible exact LeO.refl _)
      | (with_reducible exact LeO.none _)
      | (with_reducible refine LeO.ite ?_ ?_)
      | (with_reducible refine LeO.bind ?_ (fun _ => ?_))
      | exact cantonref01_Part.mono _ _
      | exact cantonref01_Split.mono _ _
      | exact cantonref01_path.mono _ _
      | exact LeO.none _
      | refine LeO.ite ?_ ?_
      | refine LeO.bind ?_ (fun _ => ?_)
set_option maxHeartbeats 8000000 in
set_option maxRecDepth 100000 in
theorem cantonref01_Join.calls (k : Nat) (a0 : ByteArray) (a1 : ByteArray) (r1 : ByteArray) (r2 : Bool) (w : World) (h : cantonref01_Join.f k a0 a1 = some (r1, r2)) :
    Calls Tryd.prog 20 #[.string a0, .string a1] w fun e w' => e = .returned (.tuple #[.string r1, .bool r2]) ∧ Below w.heap.size w w' := by
  have HB := Aside0.mk (Below.refl w.heap.size w)
  have H : ((cantonref01_Split.f k a0).bind fun bt172 => (if bt172.2 = true then ((cantonref01_Part.f k a1).bind fun t176 => (if t176 = true then (if (bt172.1.length : Int) ≥ 6 then (some ((⟨#[]⟩ : ByteArray), false)) else ((some (([] : List ByteArray) : List ByteArray)).bind fun y177 => (if y177.length + bt172.1.length < 8796093022208 then ((some (y177 ++ bt172.1 : List ByteArray)).bind fun y180 => (if y180.length < 8796093022208 then ((cantonref01_path.f k (y180 ++ [a1])).bind fun t186 => (some (t186, true))) else (none))) else (none)))) else (some ((⟨#[]⟩ : ByteArray), false)))) else (some ((⟨#[]⟩ : ByteArray), false)))) = some (r1, r2) := h
  clear h
  replace H := Option.bind_eq_some_iff.mp H
  obtain ⟨⟨t172, t173⟩, A30, H⟩ := H
  replace H : (if t173 = true then ((cantonref01_Part.f k a1).bind fun t176 => (if t176 = true then (if (t172.length : Int) ≥ 6 then (some ((⟨#[]⟩ : ByteArray), false)) else ((some (([] : List ByteArray) : List ByteArray)).bind fun y177 => (if y177.length + t172.length < 8796093022208 then ((some (y177 ++ t172 : List ByteArray)).bind fun y180 => (if y180.length < 8796093022208 then ((cantonref01_path.f k (y180 ++ [a1])).bind fun t186 => (some (t186, true))) else (none))) else (none)))) else (some ((⟨#[]⟩ : ByteArray), false)))) else (some ((⟨#[]⟩ : ByteArray), false))) = some (r1, r2) := H
  have A3 := Aside0.mk A30
  clear A30
  by_cases c4 : t173 = true
  · subst c4
    have H1 : ((cantonref01_Part.f k a1).bind fun t176 => (if t176 = true then (if (t172.length : Int) ≥ 6 then (some ((⟨#[]⟩ : ByteArray), false)) else ((some (([] : List ByteArray) : List ByteArray)).bind fun y177 => (if y177.length + t172.length < 8796093022208 then ((some (y177 ++ t172 : List ByteArray)).bind fun y180 => (if y180.length < 8796093022208 then ((cantonref01_path.f k (y180 ++ [a1])).bind fun t186 => (some (t186, true))) else (none))) else (none)))) else (some ((⟨#[]⟩ : ByteArray), false)))) = some (r1, r2) := by rw [if_pos rfl] at H; exact H
    clear H
    have H := H1
    clear H1
    replace H := Option.bind_eq_some_iff.mp H
    obtain ⟨t176, A50, H⟩ := H
    replace H : (if t176 = true then (if (t172.length : Int) ≥ 6 then (some ((⟨#[]⟩ : ByteArray), false)) else ((some (([] : List ByteArray) : List ByteArray)).bind fun y177 => (if y177.length + t172.length < 8796093022208 then ((some (y177 ++ t172 : List ByteArray)).bind fun y180 => (if y180.length < 8796093022208 then ((cantonref01_path.f k (y180 ++ [a1])).bind fun t186 => (some (t186, true))) else (none))) else (none)))) else (some ((⟨#[]⟩ : ByteArray), false))) = some (r1, r2) := H
    have A5 := Aside0.mk A50
    clear A50
    by_cases c6 : t176 = true
    · subst c6
      have H1 : (if (t172.length : Int) ≥ 6 then (some ((⟨#[]⟩ : ByteArray), false)) else ((some (([] : List ByteArray) : List ByteArray)).bind fun y177 => (if y177.length + t172.length < 8796093022208 then ((some (y177 ++ t172 : List ByteArray)).bind fun y180 => (if y180.length < 8796093022208 then ((cantonref01_path.f k (y180 ++ [a1])).bind fun t186 => (some (t186, true))) else (none))) else (none)))) = some (r1, r2) := by rw [if_pos rfl] at H; exact H
      clear H
      have H := H1
      clear H1
      by_cases c7 : (t172.length : Int) ≥ 6
      · rw [if_pos c7] at H
        have c7b0 : decide (6 ≤ (t172.length : Int)) = true := decide_eq_true c7
        have c7b1 : decide (6 ≤ t172.length) = true := decide_eq_true (by omega)
        clear c7
        simp only [Option.some.injEq, Prod.mk.injEq] at H
        obtain ⟨rfl, rfl⟩ := H
        go_enter Tryd.func20, Tryd.ntmps20
        go_wp2_with (first | ((with_reducible refine gate_callee (f := 11) rfl ?_); refine goesL_ (some 10) rfl rfl Tryd.func11 (by kernel_rfl) rfl #[.string a0] rfl (by (try simp only [List.map_toArray, List.map_cons, List.map_nil]); first | done | rfl | (simp only [List.length_drop, List.length_take]; rfl)) ?_; (with_reducible refine (cantonref01_Split.calls k a0 t172 true _ A3.out).mono ?_); rintro e w8 ⟨v174, rfl, ho0, hb⟩; refine ⟨_, rfl, ?_⟩; have n0_ := Aside0.mk (Kd.R_lower ho0 (below_size (by repeat (first | (with_reducible first | exact HB.out | apply below_alloc | apply pw_below_drewN | apply below_drew1) | exact HB.out)))); have n1_ := Aside0.mk (below_step (by repeat (first | (with_reducible first | exact HB.out | apply below_alloc | apply pw_below_drewN | apply below_drew1) | exact HB.out)) hb); clear HB; have HO175 := n0_; have HB := n1_; clear n0_ n1_; (try clear hb); (try clear hb2); (try clear hk); (try clear hi); (try clear ho0)) | (go_at_call 28; (with_reducible refine (cantonref01_Part.calls k a1 true _ A5.out).mono ?_); rintro e w' ⟨rfl, ⟨nd, rfl⟩⟩; obtain ⟨Ao9, co9, eo9⟩ := Kd.R_slice HO175.out; subst eo9))
        go_ret2
        exact ⟨by first | rfl | (simp [errW_none, errW_some] <;> rfl) | (simp [*, errW_none, errW_some] <;> rfl), by repeat (first | (with_reducible first | exact HB.out | apply below_alloc | apply pw_below_drewN | apply below_drew1) | exact HB.out)⟩
      · rw [if_neg c7] at H
        have c7b0 : decide (6 ≤ (t172.length : Int)) = false := decide_eq_false c7
        have c7b1 : decide (6 ≤ t172.length) = false := decide_eq_false (by omega)
        clear c7
        obtain ⟨y177, hy177⟩ : ∃ y_ : List ByteArray, y_ = (([] : List ByteArray)) := ⟨_, rfl⟩
        replace H : (if y177.length + t172.length < 8796093022208 then ((some (y177 ++ t172 : List ByteArray)).bind fun y180 => (if y180.length < 8796093022208 then ((cantonref01_path.f k (y180 ++ [a1])).bind fun t186 => (some (t186, true))) else (none))) else (none)) = some (r1, r2) := by first | (rw [hy177]; with_reducible exact H) | (have H2_ := (Option.bind_some _ _).symm.trans H; rw [hy177]; with_reducible exact H2_) | (have H2_ := (Option.bind_some _ _).symm.trans H; with_reducible exact H2_) | with_reducible exact H | (rw [hy177]; exact H) | exact H
        have Ny177 := Aside0.mk hy177
        clear hy177
        by_cases c10 : y177.length + t172.length < 8796093022208
        · rw [if_pos c10] at H
          have LMc10 := Aside0.mk c10
          clear c10
          obtain ⟨y180, hy180⟩ : ∃ y_ : List ByteArray, y_ = (y177 ++ t172) := ⟨_, rfl⟩
          replace H : (if y180.length < 8796093022208 then ((cantonref01_path.f k (y180 ++ [a1])).bind fun t186 => (some (t186, true))) else (none)) = some (r1, r2) := by first | (rw [hy180]; with_reducible exact H) | (have H2_ := (Option.bind_some _ _).symm.trans H; rw [hy180]; with_reducible exact H2_) | (have H2_ := (Option.bind_some _ _).symm.trans H; with_reducible exact H2_) | with_reducible exact H | (rw [hy180]; exact H) | exact H
          have Ny180 := Aside0.mk hy180
          clear hy180
          by_cases c11 : y180.length < 8796093022208
          · rw [if_pos c11] at H
            have LMc11 := Aside0.mk c11
            clear c11
            obtain ⟨y183, hy183⟩ : ∃ y_ : List ByteArray, y_ = (y180 ++ [a1]) := ⟨_, rfl⟩
            replace H : ((cantonref01_path.f k y183).bind fun t186 => (some (t186, true))) = some (r1, r2) := by first | (rw [hy183]; with_reducible exact H) | (have H2_ := (Option.bind_some _ _).symm.trans H; rw [hy183]; with_reducible exact H2_) | (have H2_ := (Option.bind_some _ _).symm.trans H; with_reducible exact H2_) | with_reducible exact H | (rw [hy183]; exact H) | exact H
            have Ny183 := Aside0.mk hy183
            clear hy183
            replace H := Option.bind_eq_some_iff.mp H
            obtain ⟨t186, A120, H⟩ := H
            replace H : (some (t186, true)) = some (r1, r2) := H
            have A12 := Aside0.mk A120
            clear A120
            simp only [Option.some.injEq, Prod.mk.injEq] at H
            obtain ⟨rfl, rfl⟩ := H
            go_enter Tryd.func20, Tryd.ntmps20
            go_wp2_with (first | ((with_reducible refine gate_callee (f := 11) rfl ?_); refine goesL_ (some 10) rfl rfl Tryd.func11 (by kernel_rfl) rfl #[.string a0] rfl (by (try simp only [List.map_toArray, List.map_cons, List.map_nil]); first | done | rfl | (simp only [List.length_drop, List.length_take]; rfl)) ?_; (with_reducible refine (cantonref01_Split.calls k a0 t172 true _ A3.out).mono ?_); rintro e w13 ⟨v174, rfl, ho0, hb⟩; refine ⟨_, rfl, ?_⟩; have n0_ := Aside0.mk (Kd.R_lower ho0 (below_size (by repeat (first | (with_reducible first | exact HB.out | apply below_alloc | apply pw_below_drewN | apply below_drew1) | exact HB.out)))); have n1_ := Aside0.mk (below_step (by repeat (first | (with_reducible first | exact HB.out | apply below_alloc | apply pw_below_drewN | apply below_drew1) | exact HB.out)) hb); clear HB; have HO175 := n0_; have HB := n1_; clear n0_ n1_; (try clear hb); (try clear hb2); (try clear hk); (try clear hi); (try clear ho0)) | (go_at_call 28; (with_reducible refine (cantonref01_Part.calls k a1 true _ A5.out).mono ?_); rintro e w' ⟨rfl, ⟨nd, rfl⟩⟩; obtain ⟨Ao14, co14, eo14⟩ := Kd.R_slice HO175.out; subst eo14) | ((with_reducible refine gate_dst (N := 25) rfl ?_); (try (refine gate_guard (by rfl) ?_; dsimp only)); refine Kd.R_lit Kd.string _ 9 ?hg (N := 25) ?hd (xs := ([] : List ByteArray)) (inner := []) (ok := fun _ => True) (okp := fun _ => True) ?hr ?hp (fun _ hk => hk) trivial (Below.refl _ _) (Nat.le_refl _) (by simp) ?_; (case hd => rfl); (case hg => rfl); (case hr => first | (go_simp; done) | (go_simp; rfl)); (case hp => exact (Reps.none _ _)); intro v178 w15 ho16 hb hg_ hnew_; clear hg_ hnew_; (first | rw [← Ny177.out] at ho16 | (simp only [Int.reduceToNat] at ho16; rw [← Ny177.out] at ho16)); have n0_ := Aside0.mk (Kd.R_elder' (by (with_reducible repeat (first | apply Kd.R_alloc | apply Kd.R_drewN | apply Kd.R_drew)); exact HO175.out) (Kd.R_base ho16) hb); have n1_ := Aside0.mk (Kd.R_lower (Kd.R_new' ho16 (Kd.R_lt (by (with_reducible repeat (first | apply Kd.R_alloc | apply Kd.R_drewN | apply Kd.R_drew)); exact HO175.out))) (below_size (by repeat (first | (with_reducible first | exact HB.out | apply below_alloc | apply pw_below_drewN | apply below_drew1) | exact HB.out)))); have n2_ := Aside0.mk (below_step (by repeat (first | (with_reducible first | exact HB.out | apply below_alloc | apply pw_below_drewN | apply below_drew1) | exact HB.out)) hb); clear HO175; clear HB; have HO175 := n0_; have HO179 := n1_; have HB := n2_; clear n0_ n1_ n2_; clear hb ho16) | ((with_reducible refine gate_builtin (b := .append) (xs := #[.tmp 25, .tmp 26]) rfl ?_); (try (refine gate_guard (by rfl) ?_; dsimp only)); at_builtin; refine Kd.R_append_rows Kd.string (w0 := w) w.heap.size rfl (.tmp 25) (.tmp 26) 23 9 (.string ⟨#[]⟩) 16 rfl Tryd.underlying23 info9 rfl (by decide) (by omega) v178 y177 t172 _ _ _ (fun k_ => some k_ ≠ (.slice Ao14 t172.length co14 : Value).ownBlock) (fun _ => False) rfl rfl ?aO ?aR (fun _ _ h => h) (fun _ h => h.elim) ?aF ?aB ?aS ?aL ?_; (case aR => repeat (first | exact (Kd.R_reads' HO175.out).2.2 | (with_reducible refine Kd.C_alloc ?_ _) | (with_reducible refine Kd.C_drewN ?_ _) | (with_reducible refine Kd.C_drew ?_))); (case aB => exact (by repeat (first | (with_reducible first | exact HB.out | apply below_alloc | apply pw_below_drewN | apply below_drew1) | exact HB.out))); (case aF => exact (fun k_ hk => Kd.fresh' (Kd.R_lt (by (with_reducible repeat (first | apply Kd.R_alloc | apply Kd.R_drewN | apply Kd.R_drew)); exact HO175.out)) k_ hk)); (case aO => exact (by (with_reducible repeat (first | apply Kd.R_alloc | apply Kd.R_drewN | apply Kd.R_drew)); exact Kd.R_mono HO179.out (fun _ hk => hk.2))); (case aS => exact (below_size (by repeat (first | (with_reducible first | exact HB.out | apply below_alloc | apply pw_below_drewN | apply below_drew1) | exact HB.out)))); (case aL => have := LMc10.out; omega); intro v181 w17 ho hb hg hat; rw [← Ny180.out] at ho; have n0_ := Aside0.mk (Kd.R_after (ok := (fun _ => True)) (by (with_reducible repeat (first | apply Kd.R_alloc | apply Kd.R_drewN | apply Kd.R_drew)); exact HO175.out) hg hat); have n1_ := Aside0.mk (hb); have n2_ := Aside0.mk (ho); clear HO175; clear HB; clear HO179; have HO175 := n0_; have HB := n1_; have HO182 := n2_; clear n0_ n1_ n2_; clear ho hb hg hat) | ((with_reducible refine gate_builtin (b := .append) (xs := #[.tmp 27, .tmp 29]) rfl ?_); (try (refine gate_guard (by rfl) ?_; dsimp only)); at_builtin; refine Kd.R_append Kd.string (w0 := w) w.heap.size rfl (.tmp 27) (.tmp 29) 23 9 (.string ⟨#[]⟩) 16 rfl Tryd.underlying23 info9 rfl (by decide) (by omega) v181 y180 a1 [.string a1] (fun k_ => some k_ ≠ (.slice Ao14 t172.length co14 : Value).ownBlock) (fun _ => False) rfl rfl ?aP (fun _ hk => hk.elim) ?aF ?aO ?aB ?aS ?aL ?_; (case aP => exact rfl); (case aB => exact (by repeat (first | (with_reducible first | exact HB.out | apply below_alloc | apply pw_below_drewN | apply below_drew1) | exact HB.out))); (case aF => exact (fun k_ hk => Kd.fresh' (Kd.R_lt (by (with_reducible repeat (first | apply Kd.R_alloc | apply Kd.R_drewN | apply Kd.R_drew)); exact HO175.out)) k_ hk)); (case aO => exact (by (with_reducible repeat (first | apply Kd.R_alloc | apply Kd.R_drewN | apply Kd.R_drew)); exact HO182.out)); (case aS => exact (below_size (by repeat (first | (with_reducible first | exact HB.out | apply below_alloc | apply pw_below_drewN | apply below_drew1) | exact HB.out)))); (case aL => have := LMc11.out; omega); intro v184 w18 ho hb hg hat; rw [← Ny183.out] at ho; have n0_ := Aside0.mk (Kd.R_after (ok := (fun _ => True)) (by (with_reducible repeat (first | apply Kd.R_alloc | apply Kd.R_drewN | apply Kd.R_drew)); exact HO175.out) hg hat); have n1_ := Aside0.mk (hb); have n2_ := Aside0.mk (ho); clear HO175; clear HB; clear HO182; have HO175 := n0_; have HB := n1_; have HO185 := n2_; clear n0_ n1_ n2_; clear ho hb hg hat; obtain ⟨Ao19, co19, eo19⟩ := Kd.R_slice HO185.out; subst eo19) | ((with_reducible refine gate_callee (f := 30) rfl ?_); refine goesL_ (some 31) rfl rfl Tryd.func30 (by kernel_rfl) rfl #[.slice Ao19 y183.length co19] rfl (by (try simp only [List.map_toArray, List.map_cons, List.map_nil]); first | done | rfl | (simp only [List.length_drop, List.length_take]; rfl)) ?_; (with_reducible refine (cantonref01_path.calls k _ _ y183 t186 _ ?side1 ?side2 A12.out).mono ?_); (case side1 => repeat (first | exact (Kd.R_reads' HO185.out).2.2 | (with_reducible refine Kd.C_alloc ?_ _) | (with_reducible refine Kd.C_drewN ?_ _) | (with_reducible refine Kd.C_drew ?_))); (case side2 => exact (Kd.R_reads' HO185.out).2.1); rintro e w' ⟨rfl, ⟨nd, rfl⟩⟩; refine ⟨_, rfl, ?_⟩))
            go_ret2
            exact ⟨by first | rfl | (simp [errW_none, errW_some] <;> rfl) | (simp [*, errW_none, errW_some] <;> rfl), by repeat (first | (with_reducible first | exact HB.out | apply below_alloc | apply pw_below_drewN | apply below_drew1) | exact HB.out)⟩
          · rw [if_neg c11] at H
            exact absurd H (by simp)
        · rw [if_neg c10] at H
          exact absurd H (by simp)
    · replace c6 := Bool.eq_false_iff.mpr c6
      subst c6
      have H1 : (some ((⟨#[]⟩ : ByteArray), false)) = some (r1, r2) := by rw [if_neg (show ¬ (false = true) by decide)] at H; exact H
      clear H
      have H := H1
      clear H1
      simp only [Option.some.injEq, Prod.mk.injEq] at H
      obtain ⟨rfl, rfl⟩ := H
      go_enter Tryd.func20, Tryd.ntmps20
      go_wp2_with (first | ((with_reducible refine gate_callee (f := 11) rfl ?_); refine goesL_ (some 10) rfl rfl Tryd.func11 (by kernel_rfl) rfl #[.string a0] rfl (by (try simp only [List.map_toArray, List.map_cons, List.map_nil]); first | done | rfl | (simp only [List.length_drop, List.length_take]; rfl)) ?_; (with_reducible refine (cantonref01_Split.calls k a0 t172 true _ A3.out).mono ?_); rintro e w20 ⟨v174, rfl, ho0, hb⟩; refine ⟨_, rfl, ?_⟩; have n0_ := Aside0.mk (Kd.R_lower ho0 (below_size (by repeat (first | (with_reducible first | exact HB.out | apply below_alloc | apply pw_below_drewN | apply below_drew1) | exact HB.out)))); have n1_ := Aside0.mk (below_step (by repeat (first | (with_reducible first | exact HB.out | apply below_alloc | apply pw_below_drewN | apply below_drew1) | exact HB.out)) hb); clear HB; have HO175 := n0_; have HB := n1_; clear n0_ n1_; (try clear hb); (try clear hb2); (try clear hk); (try clear hi); (try clear ho0)) | (go_at_call 28; (with_reducible refine (cantonref01_Part.calls k a1 false _ A5.out).mono ?_); rintro e w' ⟨rfl, ⟨nd, rfl⟩⟩))
      go_ret2
      exact ⟨by first | rfl | (simp [errW_none, errW_some] <;> rfl) | (simp [*, errW_none, errW_some] <;> rfl), by repeat (first | (with_reducible first | exact HB.out | apply below_alloc | apply pw_below_drewN | apply below_drew1) | exact HB.out)⟩
  · replace c4 := Bool.eq_false_iff.mpr c4
    subst c4
    have H1 : (some ((⟨#[]⟩ : ByteArray), false)) = some (r1, r2) := by rw [if_neg (show ¬ (false = true) by decide)] at H; exact H
    clear H
    have H := H1
    clear H1
    simp only [Option.some.injEq, Prod.mk.injEq] at H
    obtain ⟨rfl, rfl⟩ := H
    go_enter Tryd.func20, Tryd.ntmps20
    go_wp2_with (first | ((with_reducible refine gate_callee (f := 11) rfl ?_); refine goesL_ (some 10) rfl rfl Tryd.func11 (by kernel_rfl) rfl #[.string a0] rfl (by (try simp only [List.map_toArray, List.map_cons, List.map_nil]); first | done | rfl | (simp only [List.length_drop, List.length_take]; rfl)) ?_; (with_reducible refine (cantonref01_Split.calls k a0 t172 false _ A3.out).mono ?_); rintro e w21 ⟨v174, rfl, ho0, hb⟩; refine ⟨_, rfl, ?_⟩; have n0_ := Aside0.mk (Kd.R_lower ho0 (below_size (by repeat (first | (with_reducible first | exact HB.out | apply below_alloc | apply pw_below_drewN | apply below_drew1) | exact HB.out)))); have n1_ := Aside0.mk (below_step (by repeat (first | (with_reducible first | exact HB.out | apply below_alloc | apply pw_below_drewN | apply below_drew1) | exact HB.out)) hb); clear HB; have HO175 := n0_; have HB := n1_; clear n0_ n1_; (try clear hb); (try clear hb2); (try clear hk); (try clear hi); (try clear ho0)))
    go_ret2
    exact ⟨by first | rfl | (simp [errW_none, errW_some] <;> rfl) | (simp [*, errW_none, errW_some] <;> rfl), by repeat (first | (with_reducible first | exact HB.out | apply below_alloc | apply pw_below_drewN | apply below_drew1) | exact HB.out)⟩

/-! ### cantonref01_Numbered: function 22 -/
def cantonref01_Numbered.j0 : Nat → ByteArray → Int → Bool → Option (ByteArray × Bool)
  | 0, _, _, _ => none
  | k + 1, x0, x1, x12 => if x12 = true then (some ((⟨#[]⟩ : ByteArray), false)) else ((some (([(wrap64 (48 + (wrap64 (Int.tdiv x1 1000)))) % 256, (wrap64 (48 + (Int.tmod (wrap64 (Int.tdiv x1 100)) 10))) % 256, (wrap64 (48 + (Int.tmod (wrap64 (Int.tdiv x1 10)) 10))) % 256, (wrap64 (48 + (Int.tmod x1 10))) % 256] : List Int) : List Int)).bind fun y187 => (if x0.size + (strOfNums y187).size ≤ 9223372036854775807 then ((cantonref01_Part.f k (x0 ++ (strOfNums y187))).bind fun t190 => (if t190 = true then (some (x0 ++ (strOfNums y187), true)) else (some ((⟨#[]⟩ : ByteArray), false)))) else (none)))
def cantonref01_Numbered.f (k : Nat) (a0 : ByteArray) (a1 : Int) : Option (ByteArray × Bool) := if a1 < 0 then (cantonref01_Numbered.j0 k a0 a1 true) else (cantonref01_Numbered.j0 k a0 a1 (decide (a1 > 9999)))
theorem cantonref01_Numbered.mono_l : ∀ k, (∀ y0 y1 y2, LeO (cantonref01_Numbered.j0 k y0 y1 y2) (cantonref01_Numbered.j0 (k + 1) y0 y1 y2))
  | 0 => fun _ _ _ r h => by simp [cantonref01_Numbered.j0] at h
  | k + 1 => by
    have ih0 := cantonref01_Numbered.mono_l k
    · intro y0 y1 y2
      unfold cantonref01_Numbered.j0
      repeat' first
      | (with_reducible exact ih0 _ _ _)
      | (with_reducible exact cantonref01_Part.mono _ _)
      | (with_reducible exact LeO.refl _)
      | (with_reducible exact LeO.none _)
      | (with_reducible refine LeO.ite ?_ ?_)
      | (with_reducible refine LeO.bind ?_ (fun _ => ?_))
      | exact ih0 _ _ _
      | exact cantonref01_Part.mono _ _
      | exact LeO.none _
      | refine LeO.ite ?_ ?_
      | refine LeO.bind ?_ (fun _ => ?_)
theorem cantonref01_Numbered.mono : ∀ a0 a1 k, LeO (cantonref01_Numbered.f k a0 a1) (cantonref01_Numbered.f (k + 1) a0 a1) := by
  intro a0 a1 k
  have ih0 := cantonref01_Numbered.mono_l k
  unfold cantonref01_Numbered.f
  repeat' first
      | (with_reducible exact ih0 _ _ _)
      | (with_reducible exact cantonref01_Part.mono _ _)
      | (with_reducible exact LeO.refl _)
      | (with_reducible exact LeO.none _)
      | (with_reducible refine LeO.ite ?_ ?_)
      | (with_reducible refine LeO.bind ?_ (fun _ => ?_))
      | exact ih0 _ _ _
      | exact cantonref01_Part.mono _ _
      | exact LeO.none _
      | refine LeO.ite ?_ ?_
      | refine LeO.bind ?_ (fun _ => ?_)
set_option maxHeartbeats 8000000 in
set_option maxRecDepth 100000 in
theorem cantonref01_Numbered.calls (k : Nat) (a0 : ByteArray) (a1 : Int) (r1 : ByteArray) (r2 : Bool) (w : World) (h : cantonref01_Numbered.f k a0 a1 = some (r1, r2)) :
    Calls Tryd.prog 22 #[.string a0, .int .i64 a1] w fun e w' => e = .returned (.tuple #[.string r1, .bool r2]) ∧ Below w.heap.size w w' := by
  have HB := Aside0.mk (Below.refl w.heap.size w)
  have H : (if a1 < 0 then (cantonref01_Numbered.j0 k a0 a1 true) else (cantonref01_Numbered.j0 k a0 a1 (decide (a1 > 9999)))) = some (r1, r2) := h
  clear h
  have HC3 := Aside0.mk H
  clear H
  go_enter Tryd.func22, Tryd.ntmps22
  go_upto_region 1 with (fail)
  go_cut [12] (fun v12 wc => ∃ (kq : Nat) (x12_2 : Bool), v12 = .bool x12_2 ∧ Aside0 (cantonref01_Numbered.j0 kq a0 a1 x12_2 = some (r1, r2)) ∧ Aside0 (kq ≤ k) ∧ Aside0 (Below w.heap.size w wc))
  case first =>
    have H := HC3.out
    clear HC3
    by_cases c4 : a1 < 0
    · rw [if_pos c4] at H
      have c4b0 : decide (a1 < 0) = true := decide_eq_true c4
      clear c4
      (first | rw [c4b0] | (simp only [i64_w, i32_w]; rw [c4b0]) | skip)
      have H' := Aside0.mk H
      clear H
      go_wp2
      go_meet
      case rel => exact ⟨_, (true), (by first | rfl | (simp; done) | (simp [*]; done)), H', ⟨by first | omega | exact Nat.le_refl _⟩, ⟨by repeat (first | (with_reducible first | exact HB.out | apply below_alloc | apply pw_below_drewN | apply below_drew1) | exact HB.out)⟩⟩
    · rw [if_neg c4] at H
      have c4b0 : decide (a1 < 0) = false := decide_eq_false c4
      clear c4
      (first | rw [c4b0] | (simp only [i64_w, i32_w]; rw [c4b0]) | skip)
      have H' := Aside0.mk H
      clear H
      go_wp2
      go_meet
      case rel => exact ⟨_, (decide (a1 > 9999)), (by first | rfl | (simp; done) | (simp [*]; done)), H', ⟨by first | omega | exact Nat.le_refl _⟩, ⟨by repeat (first | (with_reducible first | exact HB.out | apply below_alloc | apply pw_below_drewN | apply below_drew1) | exact HB.out)⟩⟩
  case rest =>
    clear HC3
    try clear c2
    try clear p2
    try clear c4
    try clear c4b0
    obtain ⟨kq, x12_2, rfl, HA, HJ2, HB⟩ := hcut
    cases kq with
    | zero => exact absurd HA.out (by simp [cantonref01_Numbered.j0])
    | succ kj2 =>
      have H := HA.out
      clear HA
      simp only [cantonref01_Numbered.j0] at H
      by_cases c5 : x12_2 = true
      · subst c5
        have H1 : (some ((⟨#[]⟩ : ByteArray), false)) = some (r1, r2) := by rw [if_pos rfl] at H; exact H
        clear H
        have H := H1
        clear H1
        simp only [Option.some.injEq, Prod.mk.injEq] at H
        obtain ⟨rfl, rfl⟩ := H
        go_wp2
        go_ret2
        exact ⟨by first | rfl | (simp [errW_none, errW_some] <;> rfl) | (simp [*, errW_none, errW_some] <;> rfl), by repeat (first | (with_reducible first | exact HB.out | apply below_alloc | apply pw_below_drewN | apply below_drew1) | exact HB.out)⟩
      · replace c5 := Bool.eq_false_iff.mpr c5
        subst c5
        have H1 : ((some (([(wrap64 (48 + (wrap64 (Int.tdiv a1 1000)))) % 256, (wrap64 (48 + (Int.tmod (wrap64 (Int.tdiv a1 100)) 10))) % 256, (wrap64 (48 + (Int.tmod (wrap64 (Int.tdiv a1 10)) 10))) % 256, (wrap64 (48 + (Int.tmod a1 10))) % 256] : List Int) : List Int)).bind fun y187 => (if a0.size + (strOfNums y187).size ≤ 9223372036854775807 then ((cantonref01_Part.f kj2 (a0 ++ (strOfNums y187))).bind fun t190 => (if t190 = true then (some (a0 ++ (strOfNums y187), true)) else (some ((⟨#[]⟩ : ByteArray), false)))) else (none))) = some (r1, r2) := by rw [if_neg (show ¬ (false = true) by decide)] at H; exact H
        clear H
        have H := H1
        clear H1
        obtain ⟨y187, hy187⟩ : ∃ y_ : List Int, y_ = (([(wrap64 (48 + (wrap64 (Int.tdiv a1 1000)))) % 256, (wrap64 (48 + (Int.tmod (wrap64 (Int.tdiv a1 100)) 10))) % 256, (wrap64 (48 + (Int.tmod (wrap64 (Int.tdiv a1 10)) 10))) % 256, (wrap64 (48 + (Int.tmod a1 10))) % 256] : List Int)) := ⟨_, rfl⟩
        replace H : (if a0.size + (strOfNums y187).size ≤ 9223372036854775807 then ((cantonref01_Part.f kj2 (a0 ++ (strOfNums y187))).bind fun t190 => (if t190 = true then (some (a0 ++ (strOfNums y187), true)) else (some ((⟨#[]⟩ : ByteArray), false)))) else (none)) = some (r1, r2) := by first | (rw [hy187]; with_reducible exact H) | (have H2_ := (Option.bind_some _ _).symm.trans H; rw [hy187]; with_reducible exact H2_) | (have H2_ := (Option.bind_some _ _).symm.trans H; with_reducible exact H2_) | with_reducible exact H | (rw [hy187]; exact H) | exact H
        have Ny187 := Aside0.mk hy187
        clear hy187
        by_cases c6 : a0.size + (strOfNums y187).size ≤ 9223372036854775807
        · rw [if_pos c6] at H
          have c6b0 := eq_true c6
          have c6b1 : decide (a0.size + (strOfNums y187).size ≤ 9223372036854775807) = true := decide_eq_true c6
          try have c6b2 : (9223372036854775807 < a0.size + (strOfNums y187).size) = False := eq_false (Nat.not_lt.2 c6)
          replace H := Option.bind_eq_some_iff.mp H
          obtain ⟨t190, A70, H⟩ := H
          replace H : (if t190 = true then (some (a0 ++ (strOfNums y187), true)) else (some ((⟨#[]⟩ : ByteArray), false))) = some (r1, r2) := H
          have A7 := Aside0.mk A70
          clear A70
          by_cases c8 : t190 = true
          · subst c8
            have H1 : (some (a0 ++ (strOfNums y187), true)) = some (r1, r2) := by rw [if_pos rfl] at H; exact H
            clear H
            have H := H1
            clear H1
            simp only [Option.some.injEq, Prod.mk.injEq] at H
            obtain ⟨rfl, rfl⟩ := H
            go_wp2_with (first | ((with_reducible refine gate_dst (N := 32) rfl ?_); refine Kd.R_lit (Kd.int .u8) _ 5 ?hg (N := 32) ?hd (xs := ([(wrap64 (48 + (wrap64 (Int.tdiv a1 1000)))) % 256, (wrap64 (48 + (Int.tmod (wrap64 (Int.tdiv a1 100)) 10))) % 256, (wrap64 (48 + (Int.tmod (wrap64 (Int.tdiv a1 10)) 10))) % 256, (wrap64 (48 + (Int.tmod a1 10))) % 256] : List Int)) (inner := [.int .u8 ((wrap64 (48 + (wrap64 (Int.tdiv a1 1000)))) % 256), .int .u8 ((wrap64 (48 + (Int.tmod (wrap64 (Int.tdiv a1 100)) 10))) % 256), .int .u8 ((wrap64 (48 + (Int.tmod (wrap64 (Int.tdiv a1 10)) 10))) % 256), .int .u8 ((wrap64 (48 + (Int.tmod a1 10))) % 256)]) (ok := fun _ => True) (okp := fun _ => True) ?hr ?hp (fun _ hk => hk) trivial (Below.refl _ _) (Nat.le_refl _) (by simp) ?_; (case hd => rfl); (case hg => rfl); (case hr => first | (go_simp; done) | (go_simp; rfl)); (case hp => exact (Reps.one (show Kd.M (Kd.int .u8) _ _ _ ((wrap64 (48 + (wrap64 (Int.tdiv a1 1000)))) % 256) [.int .u8 ((wrap64 (48 + (wrap64 (Int.tdiv a1 1000)))) % 256)] from rfl) (Reps.one (show Kd.M (Kd.int .u8) _ _ _ ((wrap64 (48 + (Int.tmod (wrap64 (Int.tdiv a1 100)) 10))) % 256) [.int .u8 ((wrap64 (48 + (Int.tmod (wrap64 (Int.tdiv a1 100)) 10))) % 256)] from rfl) (Reps.one (show Kd.M (Kd.int .u8) _ _ _ ((wrap64 (48 + (Int.tmod (wrap64 (Int.tdiv a1 10)) 10))) % 256) [.int .u8 ((wrap64 (48 + (Int.tmod (wrap64 (Int.tdiv a1 10)) 10))) % 256)] from rfl) (Reps.one (show Kd.M (Kd.int .u8) _ _ _ ((wrap64 (48 + (Int.tmod a1 10))) % 256) [.int .u8 ((wrap64 (48 + (Int.tmod a1 10))) % 256)] from rfl) (Reps.none _ _)))))); intro v188 w9 ho10 hb hg_ hnew_; clear hg_ hnew_; (first | rw [← Ny187.out] at ho10 | (simp only [Int.reduceToNat] at ho10; rw [← Ny187.out] at ho10)); have n0_ := Aside0.mk (Kd.R_lower ho10 (below_size (by repeat (first | (with_reducible first | exact HB.out | apply below_alloc | apply pw_below_drewN | apply below_drew1) | exact HB.out)))); have n1_ := Aside0.mk (below_step (by repeat (first | (with_reducible first | exact HB.out | apply below_alloc | apply pw_below_drewN | apply below_drew1) | exact HB.out)) hb); clear HB; have HO189 := n0_; have HB := n1_; clear n0_ n1_; clear hb ho10; have hcv11 := own_string (P := Tryd.prog) Tryd.underlying44 Tryd.underlying5 Tryd.underlying9 (Kd.own_of_R HO189.out)) | ((with_reducible refine gate_callee (f := 28) rfl ?_); refine goesL_ (some 36) rfl rfl Tryd.func28 (by kernel_rfl) rfl #[.string (a0 ++ (strOfNums y187))] rfl (by (try simp only [List.map_toArray, List.map_cons, List.map_nil]); first | done | rfl | (simp only [List.length_drop, List.length_take]; rfl)) ?_; (with_reducible refine (cantonref01_Part.calls kj2 (a0 ++ (strOfNums y187)) true _ A7.out).mono ?_); rintro e w' ⟨rfl, ⟨nd, rfl⟩⟩; refine ⟨_, rfl, ?_⟩))
            go_ret2
            exact ⟨by first | rfl | (simp [errW_none, errW_some] <;> rfl) | (simp [*, errW_none, errW_some] <;> rfl), by repeat (first | (with_reducible first | exact HB.out | apply below_alloc | apply pw_below_drewN | apply below_drew1) | exact HB.out)⟩
          · replace c8 := Bool.eq_false_iff.mpr c8
            subst c8
            have H1 : (some ((⟨#[]⟩ : ByteArray), false)) = some (r1, r2) := by rw [if_neg (show ¬ (false = true) by decide)] at H; exact H
            clear H
            have H := H1
            clear H1
            simp only [Option.some.injEq, Prod.mk.injEq] at H
            obtain ⟨rfl, rfl⟩ := H
            go_wp2_with (first | ((with_reducible refine gate_dst (N := 32) rfl ?_); refine Kd.R_lit (Kd.int .u8) _ 5 ?hg (N := 32) ?hd (xs := ([(wrap64 (48 + (wrap64 (Int.tdiv a1 1000)))) % 256, (wrap64 (48 + (Int.tmod (wrap64 (Int.tdiv a1 100)) 10))) % 256, (wrap64 (48 + (Int.tmod (wrap64 (Int.tdiv a1 10)) 10))) % 256, (wrap64 (48 + (Int.tmod a1 10))) % 256] : List Int)) (inner := [.int .u8 ((wrap64 (48 + (wrap64 (Int.tdiv a1 1000)))) % 256), .int .u8 ((wrap64 (48 + (Int.tmod (wrap64 (Int.tdiv a1 100)) 10))) % 256), .int .u8 ((wrap64 (48 + (Int.tmod (wrap64 (Int.tdiv a1 10)) 10))) % 256), .int .u8 ((wrap64 (48 + (Int.tmod a1 10))) % 256)]) (ok := fun _ => True) (okp := fun _ => True) ?hr ?hp (fun _ hk => hk) trivial (Below.refl _ _) (Nat.le_refl _) (by simp) ?_; (case hd => rfl); (case hg => rfl); (case hr => first | (go_simp; done) | (go_simp; rfl)); (case hp => exact (Reps.one (show Kd.M (Kd.int .u8) _ _ _ ((wrap64 (48 + (wrap64 (Int.tdiv a1 1000)))) % 256) [.int .u8 ((wrap64 (48 + (wrap64 (Int.tdiv a1 1000)))) % 256)] from rfl) (Reps.one (show Kd.M (Kd.int .u8) _ _ _ ((wrap64 (48 + (Int.tmod (wrap64 (Int.tdiv a1 100)) 10))) % 256) [.int .u8 ((wrap64 (48 + (Int.tmod (wrap64 (Int.tdiv a1 100)) 10))) % 256)] from rfl) (Reps.one (show Kd.M (Kd.int .u8) _ _ _ ((wrap64 (48 + (Int.tmod (wrap64 (Int.tdiv a1 10)) 10))) % 256) [.int .u8 ((wrap64 (48 + (Int.tmod (wrap64 (Int.tdiv a1 10)) 10))) % 256)] from rfl) (Reps.one (show Kd.M (Kd.int .u8) _ _ _ ((wrap64 (48 + (Int.tmod a1 10))) % 256) [.int .u8 ((wrap64 (48 + (Int.tmod a1 10))) % 256)] from rfl) (Reps.none _ _)))))); intro v188 w12 ho13 hb hg_ hnew_; clear hg_ hnew_; (first | rw [← Ny187.out] at ho13 | (simp only [Int.reduceToNat] at ho13; rw [← Ny187.out] at ho13)); have n0_ := Aside0.mk (Kd.R_lower ho13 (below_size (by repeat (first | (with_reducible first | exact HB.out | apply below_alloc | apply pw_below_drewN | apply below_drew1) | exact HB.out)))); have n1_ := Aside0.mk (below_step (by repeat (first | (with_reducible first | exact HB.out | apply below_alloc | apply pw_below_drewN | apply below_drew1) | exact HB.out)) hb); clear HB; have HO189 := n0_; have HB := n1_; clear n0_ n1_; clear hb ho13; have hcv14 := own_string (P := Tryd.prog) Tryd.underlying44 Tryd.underlying5 Tryd.underlying9 (Kd.own_of_R HO189.out)) | ((with_reducible refine gate_callee (f := 28) rfl ?_); refine goesL_ (some 36) rfl rfl Tryd.func28 (by kernel_rfl) rfl #[.string (a0 ++ (strOfNums y187))] rfl (by (try simp only [List.map_toArray, List.map_cons, List.map_nil]); first | done | rfl | (simp only [List.length_drop, List.length_take]; rfl)) ?_; (with_reducible refine (cantonref01_Part.calls kj2 (a0 ++ (strOfNums y187)) false _ A7.out).mono ?_); rintro e w' ⟨rfl, ⟨nd, rfl⟩⟩; refine ⟨_, rfl, ?_⟩))
            go_ret2
            exact ⟨by first | rfl | (simp [errW_none, errW_some] <;> rfl) | (simp [*, errW_none, errW_some] <;> rfl), by repeat (first | (with_reducible first | exact HB.out | apply below_alloc | apply pw_below_drewN | apply below_drew1) | exact HB.out)⟩
        · rw [if_neg c6] at H
          exact absurd H (by simp)

/-! ### cantonref01_In: function 24 -/
mutual
def cantonref01_In.j0 : Nat → List ByteArray → List ByteArray → Bool → Option (Bool)
  | 0, _, _, _ => none
  | k + 1, x5, x7, x32 => if x32 = true then (some false) else (cantonref01_In.l0 k x5 x7 0)
def cantonref01_In.l0 : Nat → List ByteArray → List ByteArray → Int → Option (Bool)
  | 0, _, _, _ => none
  | k + 1, x5, x7, x9 => if x9 < (x7.length : Int) then (if 0 ≤ x9 then (if x9 < (x5.length : Int) then (if (rdOf ByteArray.empty x7 x9).toList = (rdOf ByteArray.empty x5 x9).toList then (cantonref01_In.l0 k x5 x7 (wrap64 (x9 + 1))) else (some false)) else (none)) else (none)) else (some true)
end
def cantonref01_In.f (k : Nat) (a0 : ByteArray) (a1 : ByteArray) : Option (Bool) := (cantonref01_Split.f k a0).bind fun bt191 => ((cantonref01_Split.f k a1).bind fun bt195 => (if bt191.2 = true then (if bt195.2 = true then (cantonref01_In.j0 k bt191.1 bt195.1 (decide ((bt195.1.length : Int) > (bt191.1.length : Int)))) else (cantonref01_In.j0 k bt191.1 bt195.1 true)) else (cantonref01_In.j0 k bt191.1 bt195.1 true)))
theorem cantonref01_In.mono_l : ∀ k, (∀ y0 y1 y2, LeO (cantonref01_In.j0 k y0 y1 y2) (cantonref01_In.j0 (k + 1) y0 y1 y2)) ∧ (∀ y0 y1 y2, LeO (cantonref01_In.l0 k y0 y1 y2) (cantonref01_In.l0 (k + 1) y0 y1 y2))
  | 0 => ⟨fun _ _ _ r h => by simp [cantonref01_In.j0] at h, fun _ _ _ r h => by simp [cantonref01_In.l0] at h⟩
  | k + 1 => by
    obtain ⟨ih0, ih1⟩ := cantonref01_In.mono_l k
    refine ⟨?_, ?_⟩
    · intro y0 y1 y2
      unfold cantonref01_In.j0
      repeat' first
      | (with_reducible exact ih0 _ _ _)
      | (with_reducible exact ih1 _ _ _)
      | (with_reducible exact cantonref01_Split.mono _ _)
      | (with_reducible exact LeO.refl _)
      | (with_reducible exact LeO.none _)
      | (with_reducible refine LeO.ite ?_ ?_)
      | (with_reducible refine LeO.bind ?_ (fun _ => ?_))
      | exact ih0 _ _ _
      | exact ih1 _ _ _
      | exact cantonref01_Split.mono _ _
      | exact LeO.none _
      | refine LeO.ite ?_ ?_
      | refine LeO.bind ?_ (fun _ => ?_)
    · intro y0 y1 y2
      unfold cantonref01_In.l0
      repeat' first
      | (with_reducible exact ih0 _ _ _)
      | (with_reducible exact ih1 _ _ _)
      | (with_reducible exact cantonref01_Split.mono _ _)
      | (with_reducible exact LeO.refl _)
      | (with_reducible exact LeO.none _)
      | (with_reducible refine LeO.ite ?_ ?_)
      | (with_reducible refine LeO.bind ?_ (fun _ => ?_))
      | exact ih0 _ _ _
      | exact ih1 _ _ _
      | exact cantonref01_Split.mono _ _
      | exact LeO.none _
      | refine LeO.ite ?_ ?_
      | refine LeO.bind ?_ (fun _ => ?_)
theorem cantonref01_In.mono : ∀ a0 a1 k, LeO (cantonref01_In.f k a0 a1) (cantonref01_In.f (k + 1) a0 a1) := by
  intro a0 a1 k
  obtain ⟨ih0, ih1⟩ := cantonref01_In.mono_l k
  unfold cantonref01_In.f
  repeat' first
      | (with_reducible exact ih0 _ _ _)
      | (with_reducible exact ih1 _ _ _)
      | (with_reducible exact cantonref01_Split.mono _ _)
      | (with_reducible exact LeO.refl _)
      | (with_reducible exact LeO.none _)
      | (with_reducible refine LeO.ite ?_ ?_)
      | (with_reducible refine LeO.bind ?_ (fun _ => ?_))
      | exact ih0 _ _ _
      | exact ih1 _ _ _
      | exact cantonref01_Split.mono _ _
      | exact LeO.none _
      | refine LeO.ite ?_ ?_
      | refine LeO.bind ?_ (fun _ => ?_)
set_option maxHeartbeats 8000000 in
set_option maxRecDepth 100000 in
theorem cantonref01_In.calls (k : Nat) (a0 : ByteArray) (a1 : ByteArray) (r : Bool) (w : World) (h : cantonref01_In.f k a0 a1 = some r) :
    Calls Tryd.prog 24 #[.string a0, .string a1] w fun e w' => e = .returned (.bool r) ∧ Below w.heap.size w w' := by
  have HB := Aside0.mk (Below.refl w.heap.size w)
  have H : ((cantonref01_Split.f k a0).bind fun bt191 => ((cantonref01_Split.f k a1).bind fun bt195 => (if bt191.2 = true then (if bt195.2 = true then (cantonref01_In.j0 k bt191.1 bt195.1 (decide ((bt195.1.length : Int) > (bt191.1.length : Int)))) else (cantonref01_In.j0 k bt191.1 bt195.1 true)) else (cantonref01_In.j0 k bt191.1 bt195.1 true)))) = some r := h
  clear h
  replace H := Option.bind_eq_some_iff.mp H
  obtain ⟨⟨t191, t192⟩, A30, H⟩ := H
  replace H : ((cantonref01_Split.f k a1).bind fun bt195 => (if t192 = true then (if bt195.2 = true then (cantonref01_In.j0 k t191 bt195.1 (decide ((bt195.1.length : Int) > (t191.length : Int)))) else (cantonref01_In.j0 k t191 bt195.1 true)) else (cantonref01_In.j0 k t191 bt195.1 true))) = some r := H
  have A3 := Aside0.mk A30
  clear A30
  replace H := Option.bind_eq_some_iff.mp H
  obtain ⟨⟨t195, t196⟩, A40, H⟩ := H
  replace H : (if t192 = true then (if t196 = true then (cantonref01_In.j0 k t191 t195 (decide ((t195.length : Int) > (t191.length : Int)))) else (cantonref01_In.j0 k t191 t195 true)) else (cantonref01_In.j0 k t191 t195 true)) = some r := H
  have A4 := Aside0.mk A40
  clear A40
  have HC5 := Aside0.mk H
  clear H
  go_enter Tryd.func24, Tryd.ntmps24
  go_upto_region 3 with (first | (go_at_call 11; (with_reducible refine (cantonref01_Split.calls k a0 t191 t192 _ A3.out).mono ?_); rintro e w6 ⟨v193, rfl, ho0, hb⟩; have n0_ := Aside0.mk (Kd.R_lower ho0 (below_size (by repeat (first | (with_reducible first | exact HB.out | apply below_alloc | apply pw_below_drewN | apply below_drew1) | exact HB.out)))); have n1_ := Aside0.mk (below_step (by repeat (first | (with_reducible first | exact HB.out | apply below_alloc | apply pw_below_drewN | apply below_drew1) | exact HB.out)) hb); clear HB; have HO194 := n0_; have HB := n1_; clear n0_ n1_; (try clear hb); (try clear hb2); (try clear hk); (try clear hi); (try clear ho0)) | (go_at_call 11; (with_reducible refine (cantonref01_Split.calls k a1 t195 t196 _ A4.out).mono ?_); rintro e w7 ⟨v197, rfl, ho0, hb⟩; have n0_ := Aside0.mk (Kd.R_elder' (by (with_reducible repeat (first | apply Kd.R_alloc | apply Kd.R_drewN | apply Kd.R_drew)); exact HO194.out) (Kd.R_base ho0) hb); have n1_ := Aside0.mk (Kd.R_lower (Kd.R_new' ho0 (Kd.R_lt (by (with_reducible repeat (first | apply Kd.R_alloc | apply Kd.R_drewN | apply Kd.R_drew)); exact HO194.out))) (below_size (by repeat (first | (with_reducible first | exact HB.out | apply below_alloc | apply pw_below_drewN | apply below_drew1) | exact HB.out)))); have n2_ := Aside0.mk (below_step (by repeat (first | (with_reducible first | exact HB.out | apply below_alloc | apply pw_below_drewN | apply below_drew1) | exact HB.out)) hb); clear HO194; clear HB; have HO194 := n0_; have HO198 := n1_; have HB := n2_; clear n0_ n1_ n2_; (try clear hb); (try clear hb2); (try clear hk); (try clear hi); (try clear ho0)))
  repeat (go_quiet (first | (go_at_call 11; (with_reducible refine (cantonref01_Split.calls k a0 t191 t192 _ A3.out).mono ?_); rintro e w6 ⟨v193, rfl, ho0, hb⟩; have n0_ := Aside0.mk (Kd.R_lower ho0 (below_size (by repeat (first | (with_reducible first | exact HB.out | apply below_alloc | apply pw_below_drewN | apply below_drew1) | exact HB.out)))); have n1_ := Aside0.mk (below_step (by repeat (first | (with_reducible first | exact HB.out | apply below_alloc | apply pw_below_drewN | apply below_drew1) | exact HB.out)) hb); clear HB; have HO194 := n0_; have HB := n1_; clear n0_ n1_; (try clear hb); (try clear hb2); (try clear hk); (try clear hi); (try clear ho0)) | (go_at_call 11; (with_reducible refine (cantonref01_Split.calls k a1 t195 t196 _ A4.out).mono ?_); rintro e w7 ⟨v197, rfl, ho0, hb⟩; have n0_ := Aside0.mk (Kd.R_elder' (by (with_reducible repeat (first | apply Kd.R_alloc | apply Kd.R_drewN | apply Kd.R_drew)); exact HO194.out) (Kd.R_base ho0) hb); have n1_ := Aside0.mk (Kd.R_lower (Kd.R_new' ho0 (Kd.R_lt (by (with_reducible repeat (first | apply Kd.R_alloc | apply Kd.R_drewN | apply Kd.R_drew)); exact HO194.out))) (below_size (by repeat (first | (with_reducible first | exact HB.out | apply below_alloc | apply pw_below_drewN | apply below_drew1) | exact HB.out)))); have n2_ := Aside0.mk (below_step (by repeat (first | (with_reducible first | exact HB.out | apply below_alloc | apply pw_below_drewN | apply below_drew1) | exact HB.out)) hb); clear HO194; clear HB; have HO194 := n0_; have HO198 := n1_; have HB := n2_; clear n0_ n1_ n2_; (try clear hb); (try clear hb2); (try clear hk); (try clear hi); (try clear ho0))); go_upto_region 3 with (first | (go_at_call 11; (with_reducible refine (cantonref01_Split.calls k a0 t191 t192 _ A3.out).mono ?_); rintro e w6 ⟨v193, rfl, ho0, hb⟩; have n0_ := Aside0.mk (Kd.R_lower ho0 (below_size (by repeat (first | (with_reducible first | exact HB.out | apply below_alloc | apply pw_below_drewN | apply below_drew1) | exact HB.out)))); have n1_ := Aside0.mk (below_step (by repeat (first | (with_reducible first | exact HB.out | apply below_alloc | apply pw_below_drewN | apply below_drew1) | exact HB.out)) hb); clear HB; have HO194 := n0_; have HB := n1_; clear n0_ n1_; (try clear hb); (try clear hb2); (try clear hk); (try clear hi); (try clear ho0)) | (go_at_call 11; (with_reducible refine (cantonref01_Split.calls k a1 t195 t196 _ A4.out).mono ?_); rintro e w7 ⟨v197, rfl, ho0, hb⟩; have n0_ := Aside0.mk (Kd.R_elder' (by (with_reducible repeat (first | apply Kd.R_alloc | apply Kd.R_drewN | apply Kd.R_drew)); exact HO194.out) (Kd.R_base ho0) hb); have n1_ := Aside0.mk (Kd.R_lower (Kd.R_new' ho0 (Kd.R_lt (by (with_reducible repeat (first | apply Kd.R_alloc | apply Kd.R_drewN | apply Kd.R_drew)); exact HO194.out))) (below_size (by repeat (first | (with_reducible first | exact HB.out | apply below_alloc | apply pw_below_drewN | apply below_drew1) | exact HB.out)))); have n2_ := Aside0.mk (below_step (by repeat (first | (with_reducible first | exact HB.out | apply below_alloc | apply pw_below_drewN | apply below_drew1) | exact HB.out)) hb); clear HO194; clear HB; have HO194 := n0_; have HO198 := n1_; have HB := n2_; clear n0_ n1_ n2_; (try clear hb); (try clear hb2); (try clear hk); (try clear hi); (try clear ho0))))
  (try simp only [Act.put, List.setIfInBounds_toArray, List.set_cons_zero, List.set_cons_succ])
  go_cut [32] (fun v32 wc => ∃ (kq : Nat) (x32_4 : Bool), v32 = .bool x32_4 ∧ Aside0 (cantonref01_In.j0 kq t191 t195 x32_4 = some r) ∧ Aside0 (kq ≤ k) ∧ Aside0 (Kd.R Kd.string 9 wc w.heap.size (fun k_ => some k_ ≠ (v197 : Value).ownBlock) v193 t191) ∧ Aside0 (Kd.R Kd.string 9 wc w.heap.size (fun k_ => some k_ ≠ (v193 : Value).ownBlock) v197 t195) ∧ Aside0 (Below w.heap.size w wc))
  case first =>
    have H := HC5.out
    clear HC5
    by_cases c8 : t192 = true
    · subst c8
      have H1 : (if t196 = true then (cantonref01_In.j0 k t191 t195 (decide ((t195.length : Int) > (t191.length : Int)))) else (cantonref01_In.j0 k t191 t195 true)) = some r := by rw [if_pos rfl] at H; exact H
      clear H
      have H := H1
      clear H1
      by_cases c9 : t196 = true
      · subst c9
        have H1 : (cantonref01_In.j0 k t191 t195 (decide ((t195.length : Int) > (t191.length : Int)))) = some r := by rw [if_pos rfl] at H; exact H
        clear H
        have H := H1
        clear H1
        have H' := Aside0.mk H
        clear H
        obtain ⟨Ao10, co10, eo10⟩ := Kd.R_slice HO198.out
        subst eo10
        obtain ⟨Ao11, co11, eo11⟩ := Kd.R_slice HO194.out
        subst eo11
        go_wp2
        repeat (go_quiet (fail); try go_wp2)
        go_meet
        case rel => exact ⟨_, (decide ((t195.length : Int) > (t191.length : Int))), (by first | rfl | (simp; done) | (simp [*]; done)), H', ⟨by first | omega | exact Nat.le_refl _⟩, ⟨by (with_reducible repeat (first | apply Kd.R_alloc | apply Kd.R_drewN | apply Kd.R_drew)); exact Kd.R_mono HO194.out (fun _ hk => hk.2)⟩, ⟨by (with_reducible repeat (first | apply Kd.R_alloc | apply Kd.R_drewN | apply Kd.R_drew)); exact Kd.R_mono HO198.out (fun _ hk => hk.2)⟩, ⟨by repeat (first | (with_reducible first | exact HB.out | apply below_alloc | apply pw_below_drewN | apply below_drew1) | exact HB.out)⟩⟩
      · replace c9 := Bool.eq_false_iff.mpr c9
        subst c9
        have H1 : (cantonref01_In.j0 k t191 t195 true) = some r := by rw [if_neg (show ¬ (false = true) by decide)] at H; exact H
        clear H
        have H := H1
        clear H1
        have H' := Aside0.mk H
        clear H
        go_wp2
        repeat (go_quiet (fail); try go_wp2)
        go_meet
        case rel => exact ⟨_, (true), (by first | rfl | (simp; done) | (simp [*]; done)), H', ⟨by first | omega | exact Nat.le_refl _⟩, ⟨by (with_reducible repeat (first | apply Kd.R_alloc | apply Kd.R_drewN | apply Kd.R_drew)); exact Kd.R_mono HO194.out (fun _ hk => hk.2)⟩, ⟨by (with_reducible repeat (first | apply Kd.R_alloc | apply Kd.R_drewN | apply Kd.R_drew)); exact Kd.R_mono HO198.out (fun _ hk => hk.2)⟩, ⟨by repeat (first | (with_reducible first | exact HB.out | apply below_alloc | apply pw_below_drewN | apply below_drew1) | exact HB.out)⟩⟩
    · replace c8 := Bool.eq_false_iff.mpr c8
      subst c8
      have H1 : (cantonref01_In.j0 k t191 t195 true) = some r := by rw [if_neg (show ¬ (false = true) by decide)] at H; exact H
      clear H
      have H := H1
      clear H1
      have H' := Aside0.mk H
      clear H
      go_wp2
      repeat (go_quiet (fail); try go_wp2)
      go_meet
      case rel => exact ⟨_, (true), (by first | rfl | (simp; done) | (simp [*]; done)), H', ⟨by first | omega | exact Nat.le_refl _⟩, ⟨by (with_reducible repeat (first | apply Kd.R_alloc | apply Kd.R_drewN | apply Kd.R_drew)); exact Kd.R_mono HO194.out (fun _ hk => hk.2)⟩, ⟨by (with_reducible repeat (first | apply Kd.R_alloc | apply Kd.R_drewN | apply Kd.R_drew)); exact Kd.R_mono HO198.out (fun _ hk => hk.2)⟩, ⟨by repeat (first | (with_reducible first | exact HB.out | apply below_alloc | apply pw_below_drewN | apply below_drew1) | exact HB.out)⟩⟩
  case rest =>
    clear HC5
    try clear c2
    try clear p2
    try clear c8
    try clear c9
    obtain ⟨kq, x32_4, rfl, HA, HJ4, HO_5, HO_7, HB⟩ := hcut
    cases kq with
    | zero => exact absurd HA.out (by simp [cantonref01_In.j0])
    | succ kj4 =>
      have H := HA.out
      clear HA
      simp only [cantonref01_In.j0] at H
      by_cases c12 : x32_4 = true
      · subst c12
        have H1 : (some false) = some r := by rw [if_pos rfl] at H; exact H
        clear H
        have H := H1
        clear H1
        obtain rfl := Option.some.inj H
        go_wp2
        repeat (go_quiet (fail); try go_wp2)
        go_ret
        exact ⟨by first | rfl | (simp [errW_none, errW_some] <;> rfl) | (simp [*, errW_none, errW_some] <;> rfl), by repeat (first | (with_reducible first | exact HB.out | apply below_alloc | apply pw_below_drewN | apply below_drew1) | exact HB.out)⟩
      · replace c12 := Bool.eq_false_iff.mpr c12
        subst c12
        have H1 : (cantonref01_In.l0 kj4 t191 t195 0) = some r := by rw [if_neg (show ¬ (false = true) by decide)] at H; exact H
        clear H
        have H := H1
        clear H1
        have H' := Aside0.mk H
        clear H
        go_wp2
        repeat (go_quiet (fail); try go_wp2)
        go_loopg [9] kj4 (fun kq v9 w' => ∃ (x9_2 : Int), v9 = .int .i64 x9_2 ∧ Aside0 (cantonref01_In.l0 kq t191 t195 x9_2 = some r) ∧ Aside0 (kq ≤ kj4) ∧ Aside0 (Kd.R Kd.string 9 w' w.heap.size (fun k_ => some k_ ≠ (v197 : Value).ownBlock) v193 t191) ∧ Aside0 (Kd.R Kd.string 9 w' w.heap.size (fun k_ => some k_ ≠ (v193 : Value).ownBlock) v197 t195) ∧ Aside0 (Below w.heap.size w w'))
        case atStart => exact ⟨(0), (by first | rfl | (simp; done) | (simp [*]; done)), H', ⟨Nat.le_refl _⟩, ⟨by (with_reducible repeat (first | apply Kd.R_alloc | apply Kd.R_drewN | apply Kd.R_drew)); exact HO_5.out⟩, ⟨by (with_reducible repeat (first | apply Kd.R_alloc | apply Kd.R_drewN | apply Kd.R_drew)); exact HO_7.out⟩, ⟨by repeat (first | (with_reducible first | exact HB.out | apply below_alloc | apply pw_below_drewN | apply below_drew1) | exact HB.out)⟩⟩
        case round =>
          clear H'
          try clear c1
          try clear c2
          try clear p2
          try clear c8
          try clear c9
          try clear c12
          try clear p2
          obtain ⟨x9_2, rfl, HA, HK2, HO_5, HO_7, HB⟩ := hrel
          cases gk with
          | zero => exact absurd HA.out (by simp [cantonref01_In.l0])
          | succ k2 =>
            have H := HA.out
            clear HA
            simp only [cantonref01_In.l0] at H
            by_cases c13 : x9_2 < (t195.length : Int)
            · rw [if_pos c13] at H
              have c13b0 : decide (x9_2 < (t195.length : Int)) = true := decide_eq_true c13
              clear c13
              by_cases c14 : 0 ≤ x9_2
              · rw [if_pos c14] at H
                have c14b0 : decide (0 ≤ x9_2) = true := decide_eq_true c14
                clear c14
                by_cases c15 : x9_2 < (t191.length : Int)
                · rw [if_pos c15] at H
                  have c15b0 : decide (x9_2 < (t191.length : Int)) = true := decide_eq_true c15
                  clear c15
                  by_cases c16 : (rdOf ByteArray.empty t195 x9_2).toList = (rdOf ByteArray.empty t191 x9_2).toList
                  · rw [if_pos c16] at H
                    have c16b0 : ((rdOf ByteArray.empty t195 x9_2).toList == (rdOf ByteArray.empty t191 x9_2).toList) = true := beq_iff_eq.mpr c16
                    have c16b1 : ((rdOf ByteArray.empty t195 x9_2).toList != (rdOf ByteArray.empty t191 x9_2).toList) = false := bne_eq_false_iff_eq.mpr c16
                    clear c16
                    have H' := Aside0.mk H
                    clear H
                    obtain ⟨Ao17, co17, eo17⟩ := Kd.R_slice HO_7.out
                    subst eo17
                    have p199 : 0 ≤ (x9_2 : Int) := of_decide_eq_true (by first | (with_reducible assumption) | assumption)
                    have q199 : x9_2 < (t195.length : Int) := of_decide_eq_true (by first | (with_reducible assumption) | assumption)
                    obtain ⟨ad199, e199, hx199_0⟩ := Kd.at_string (Kd.R_reads' HO_7.out).2.2 x9_2 p199 q199
                    cases e199
                    replace p199 := eq_true p199
                    replace q199 := eq_true q199
                    obtain ⟨Ao18, co18, eo18⟩ := Kd.R_slice HO_5.out
                    subst eo18
                    have p200 : 0 ≤ (x9_2 : Int) := of_decide_eq_true (by first | (with_reducible assumption) | assumption)
                    have q200 : x9_2 < (t191.length : Int) := of_decide_eq_true (by first | (with_reducible assumption) | assumption)
                    obtain ⟨ad200, e200, hx200_0⟩ := Kd.at_string (Kd.R_reads' HO_5.out).2.2 x9_2 p200 q200
                    cases e200
                    replace p200 := eq_true p200
                    replace q200 := eq_true q200
                    go_wp2
                    repeat (go_quiet (fail); try go_wp2)
                    go_roundg k2
                    case measure => have := HJ4.out; have := HK2.out; omega
                    case rel => exact ⟨(wrap64 (x9_2 + 1)), (by first | rfl | (simp; done) | (simp [*]; done)), H', ⟨by have := HJ4.out; have := HK2.out; omega⟩, ⟨by (with_reducible repeat (first | apply Kd.R_alloc | apply Kd.R_drewN | apply Kd.R_drew)); exact HO_5.out⟩, ⟨by (with_reducible repeat (first | apply Kd.R_alloc | apply Kd.R_drewN | apply Kd.R_drew)); exact HO_7.out⟩, ⟨by repeat (first | (with_reducible first | exact HB.out | apply below_alloc | apply pw_below_drewN | apply below_drew1) | exact HB.out)⟩⟩
                  · rw [if_neg c16] at H
                    have c16b0 : ((rdOf ByteArray.empty t195 x9_2).toList == (rdOf ByteArray.empty t191 x9_2).toList) = false := beq_eq_false_iff_ne.mpr c16
                    have c16b1 : ((rdOf ByteArray.empty t195 x9_2).toList != (rdOf ByteArray.empty t191 x9_2).toList) = true := bne_iff_ne.mpr c16
                    obtain rfl := Option.some.inj H
                    obtain ⟨Ao19, co19, eo19⟩ := Kd.R_slice HO_7.out
                    subst eo19
                    have p199 : 0 ≤ (x9_2 : Int) := of_decide_eq_true (by first | (with_reducible assumption) | assumption)
                    have q199 : x9_2 < (t195.length : Int) := of_decide_eq_true (by first | (with_reducible assumption) | assumption)
                    obtain ⟨ad199, e199, hx199_0⟩ := Kd.at_string (Kd.R_reads' HO_7.out).2.2 x9_2 p199 q199
                    cases e199
                    replace p199 := eq_true p199
                    replace q199 := eq_true q199
                    obtain ⟨Ao20, co20, eo20⟩ := Kd.R_slice HO_5.out
                    subst eo20
                    have p200 : 0 ≤ (x9_2 : Int) := of_decide_eq_true (by first | (with_reducible assumption) | assumption)
                    have q200 : x9_2 < (t191.length : Int) := of_decide_eq_true (by first | (with_reducible assumption) | assumption)
                    obtain ⟨ad200, e200, hx200_0⟩ := Kd.at_string (Kd.R_reads' HO_5.out).2.2 x9_2 p200 q200
                    cases e200
                    replace p200 := eq_true p200
                    replace q200 := eq_true q200
                    go_wp2
                    repeat (go_quiet (fail); try go_wp2)
                    go_ret
                    exact ⟨by first | rfl | (simp [errW_none, errW_some] <;> rfl) | (simp [*, errW_none, errW_some] <;> rfl), by repeat (first | (with_reducible first | exact HB.out | apply below_alloc | apply pw_below_drewN | apply below_drew1) | exact HB.out)⟩
                · rw [if_neg c15] at H
                  exact absurd H (by simp)
              · rw [if_neg c14] at H
                exact absurd H (by simp)
            · rw [if_neg c13] at H
              have c13b0 : decide (x9_2 < (t195.length : Int)) = false := decide_eq_false c13
              clear c13
              obtain rfl := Option.some.inj H
              obtain ⟨Ao21, co21, eo21⟩ := Kd.R_slice HO_7.out
              subst eo21
              go_wp2
              repeat (go_quiet (fail); try go_wp2)
              go_ret
              exact ⟨by first | rfl | (simp [errW_none, errW_some] <;> rfl) | (simp [*, errW_none, errW_some] <;> rfl), by repeat (first | (with_reducible first | exact HB.out | apply below_alloc | apply pw_below_drewN | apply below_drew1) | exact HB.out)⟩

end Go.Proofs.YtopgenipifhjfaaDoor.Q
