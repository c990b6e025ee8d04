-- Written by a program of this session (xprint) out of the translation; over contracts proved by hand.
import Derived.Test.YtinjajpnbbknnaaQx0
import Derived.Test.YtinjajpnbbknnaaSq
import Derived.Test.YtinjajpnbbknnaaQx8
import Derived.Test.YtinjajpnbbknnaaQx9
namespace Go.Proofs.Ytinjajpnbbknnaa.Cut2
end Go.Proofs.Ytinjajpnbbknnaa.Cut2
namespace Go.Proofs.Ytinjajpnbbknnaa.RPut
end Go.Proofs.Ytinjajpnbbknnaa.RPut
namespace Go.Proofs.Ytinjajpnbbknnaa.Split
end Go.Proofs.Ytinjajpnbbknnaa.Split
namespace Go.Proofs.Ytinjajpnbbknnaa.Q
open Go.Proofs.Ytinjajpnbbknnaa.Cut2 Go.Proofs.Ytinjajpnbbknnaa.RPut Go.Proofs.Ytinjajpnbbknnaa.Split
set_option linter.unnecessarySimpa false
open Go.RowKit Go.Proofs.YtinjajpnbbknnaaW.PrintWords Go.Proofs.YtinjajpnbbknnaaW.PrintLast Go.Proofs.YtinjajpnbbknnaaW.PrintMore
attribute [local go_sem] max2_int min2_int max_two min_two max_three min_three max_four min_four   -- for this text's walks alone
set_option linter.unusedVariables false
set_option linter.unusedSimpArgs false

/-! ### cantonref01_Numbered: function 31 -/
def cantonref01_Numbered.j0 : Nat → ByteArray → Int → Bool → Option (ByteArray × Bool)
  | 0, _, _, _ => none
  | k + 1, x0, x1, x12 => if x12 = true then (some ((⟨#[]⟩ : ByteArray), false)) else ((some (([(wrap64 (48 + (wrap64 (Int.tdiv x1 1000)))) % 256, (wrap64 (48 + (Int.tmod (wrap64 (Int.tdiv x1 100)) 10))) % 256, (wrap64 (48 + (Int.tmod (wrap64 (Int.tdiv x1 10)) 10))) % 256, (wrap64 (48 + (Int.tmod x1 10))) % 256] : List Int) : List Int)).bind fun y535 => (if x0.size + (strOfNums y535).size ≤ 9223372036854775807 then ((cantonref01_Part.f k (x0 ++ (strOfNums y535))).bind fun t538 => (if t538 = true then (some (x0 ++ (strOfNums y535), true)) else (some ((⟨#[]⟩ : ByteArray), false)))) else (none)))
def cantonref01_Numbered.f (k : Nat) (a0 : ByteArray) (a1 : Int) : Option (ByteArray × Bool) := if a1 < 0 then (cantonref01_Numbered.j0 k a0 a1 true) else (cantonref01_Numbered.j0 k a0 a1 (decide (a1 > 9999)))
theorem cantonref01_Numbered.mono_l : ∀ k, (∀ y0 y1 y2, LeO (cantonref01_Numbered.j0 k y0 y1 y2) (cantonref01_Numbered.j0 (k + 1) y0 y1 y2))
  | 0 => fun _ _ _ r h => by simp [cantonref01_Numbered.j0] at h
  | k + 1 => by
    have ih0 := cantonref01_Numbered.mono_l k
    · intro y0 y1 y2
      unfold cantonref01_Numbered.j0
      repeat' first
      | (with_reducible exact ih0 _ _ _)
      | (with_reducible exact cantonref01_Part.mono _ _)
      | (with_reducible exact LeO.refl _)
      | (with_reducible exact LeO.none _)
      | (with_reducible refine LeO.ite ?_ ?_)
      | (with_reducible refine LeO.bind ?_ (fun _ => ?_))
      | exact ih0 _ _ _
      | exact cantonref01_Part.mono _ _
      | exact LeO.none _
      | refine LeO.ite ?_ ?_
      | refine LeO.bind ?_ (fun _ => ?_)
theorem cantonref01_Numbered.mono : ∀ a0 a1 k, LeO (cantonref01_Numbered.f k a0 a1) (cantonref01_Numbered.f (k + 1) a0 a1) := by
  intro a0 a1 k
  have ih0 := cantonref01_Numbered.mono_l k
  unfold cantonref01_Numbered.f
  repeat' first
      | (with_reducible exact ih0 _ _ _)
      | (with_reducible exact cantonref01_Part.mono _ _)
      | (with_reducible exact LeO.refl _)
      | (with_reducible exact LeO.none _)
      | (with_reducible refine LeO.ite ?_ ?_)
      | (with_reducible refine LeO.bind ?_ (fun _ => ?_))
      | exact ih0 _ _ _
      | exact cantonref01_Part.mono _ _
      | exact LeO.none _
      | refine LeO.ite ?_ ?_
      | refine LeO.bind ?_ (fun _ => ?_)
set_option maxHeartbeats 8000000 in
set_option maxRecDepth 100000 in
theorem cantonref01_Numbered.calls (k : Nat) (a0 : ByteArray) (a1 : Int) (r1 : ByteArray) (r2 : Bool) (w : World) (h : cantonref01_Numbered.f k a0 a1 = some (r1, r2)) :
    Calls Try.prog 31 #[.string a0, .int .i64 a1] w fun e w' => e = .returned (.tuple #[.string r1, .bool r2]) ∧ Below w.heap.size w w' := by
  have HB := Aside0.mk (Below.refl w.heap.size w)
  have H : (if a1 < 0 then (cantonref01_Numbered.j0 k a0 a1 true) else (cantonref01_Numbered.j0 k a0 a1 (decide (a1 > 9999)))) = some (r1, r2) := h
  clear h
  have HC3 := Aside0.mk H
  clear H
  go_enter Try.func31, Try.ntmps31
  go_upto_region 1 with (fail)
  go_cut [12] (fun v12 wc => ∃ (kq : Nat) (x12_2 : Bool), v12 = .bool x12_2 ∧ Aside0 (cantonref01_Numbered.j0 kq a0 a1 x12_2 = some (r1, r2)) ∧ Aside0 (kq ≤ k) ∧ Aside0 (Below w.heap.size w wc))
  case first =>
    have H := HC3.out
    clear HC3
    by_cases c4 : a1 < 0
    · rw [if_pos c4] at H
      have c4b0 : decide (a1 < 0) = true := decide_eq_true c4
      clear c4
      (first | rw [c4b0] | (simp only [i64_w, i32_w]; rw [c4b0]) | skip)
      have H' := Aside0.mk H
      clear H
      go_wp2
      go_meet
      case rel => exact ⟨_, (true), (by first | rfl | (simp; done) | (simp [*]; done)), H', ⟨by first | omega | exact Nat.le_refl _⟩, ⟨kZ HB⟩⟩
    · rw [if_neg c4] at H
      have c4b0 : decide (a1 < 0) = false := decide_eq_false c4
      clear c4
      (first | rw [c4b0] | (simp only [i64_w, i32_w]; rw [c4b0]) | skip)
      have H' := Aside0.mk H
      clear H
      go_wp2
      go_meet
      case rel => exact ⟨_, (decide (a1 > 9999)), (by first | rfl | (simp; done) | (simp [*]; done)), H', ⟨by first | omega | exact Nat.le_refl _⟩, ⟨kZ HB⟩⟩
  case rest =>
    clear HC3
    try clear p2
    try clear c3
    try clear c4
    try clear c4b0
    obtain ⟨kq, x12_2, rfl, HA, HJ2, HB⟩ := hcut
    cases kq with
    | zero => exact absurd HA.out (by simp [cantonref01_Numbered.j0])
    | succ kj2 =>
      have H := HA.out
      clear HA
      simp only [cantonref01_Numbered.j0] at H
      by_cases c5 : x12_2 = true
      · subst c5
        have H1 : (some ((⟨#[]⟩ : ByteArray), false)) = some (r1, r2) := by rw [if_pos rfl] at H; exact H
        clear H
        have H := H1
        clear H1
        simp only [Option.some.injEq, Prod.mk.injEq] at H
        obtain ⟨rfl, rfl⟩ := H
        go_wp2
        go_ret2
        exact ⟨by first | rfl | (simp [errW_none, errW_some] <;> rfl) | (simp [*, errW_none, errW_some] <;> rfl), kZ HB⟩
      · replace c5 := Bool.eq_false_iff.mpr c5
        subst c5
        have H1 : ((some (([(wrap64 (48 + (wrap64 (Int.tdiv a1 1000)))) % 256, (wrap64 (48 + (Int.tmod (wrap64 (Int.tdiv a1 100)) 10))) % 256, (wrap64 (48 + (Int.tmod (wrap64 (Int.tdiv a1 10)) 10))) % 256, (wrap64 (48 + (Int.tmod a1 10))) % 256] : List Int) : List Int)).bind fun y535 => (if a0.size + (strOfNums y535).size ≤ 9223372036854775807 then ((cantonref01_Part.f kj2 (a0 ++ (strOfNums y535))).bind fun t538 => (if t538 = true then (some (a0 ++ (strOfNums y535), true)) else (some ((⟨#[]⟩ : ByteArray), false)))) else (none))) = some (r1, r2) := by rw [if_neg (show ¬ (false = true) by decide)] at H; exact H
        clear H
        have H := H1
        clear H1
        obtain ⟨y535, hy535⟩ : ∃ y_ : List Int, y_ = (([(wrap64 (48 + (wrap64 (Int.tdiv a1 1000)))) % 256, (wrap64 (48 + (Int.tmod (wrap64 (Int.tdiv a1 100)) 10))) % 256, (wrap64 (48 + (Int.tmod (wrap64 (Int.tdiv a1 10)) 10))) % 256, (wrap64 (48 + (Int.tmod a1 10))) % 256] : List Int)) := ⟨_, rfl⟩
        replace H : (if a0.size + (strOfNums y535).size ≤ 9223372036854775807 then ((cantonref01_Part.f kj2 (a0 ++ (strOfNums y535))).bind fun t538 => (if t538 = true then (some (a0 ++ (strOfNums y535), true)) else (some ((⟨#[]⟩ : ByteArray), false)))) else (none)) = some (r1, r2) := by first | (rw [hy535]; with_reducible exact H) | (have H2_ := (Option.bind_some _ _).symm.trans H; rw [hy535]; with_reducible exact H2_) | (have H2_ := (Option.bind_some _ _).symm.trans H; with_reducible exact H2_) | with_reducible exact H | (rw [hy535]; exact H) | exact H
        have Ny535 := Aside0.mk hy535
        clear hy535
        by_cases c6 : a0.size + (strOfNums y535).size ≤ 9223372036854775807
        · rw [if_pos c6] at H
          have c6b0 := eq_true c6
          have c6b1 : decide (a0.size + (strOfNums y535).size ≤ 9223372036854775807) = true := decide_eq_true c6
          try have c6b2 : (9223372036854775807 < a0.size + (strOfNums y535).size) = False := eq_false (Nat.not_lt.2 c6)
          replace H := Option.bind_eq_some_iff.mp H
          obtain ⟨t538, A70, H⟩ := H
          replace H : (if t538 = true then (some (a0 ++ (strOfNums y535), true)) else (some ((⟨#[]⟩ : ByteArray), false))) = some (r1, r2) := H
          have A7 := Aside0.mk A70
          clear A70
          by_cases c8 : t538 = true
          · subst c8
            have H1 : (some (a0 ++ (strOfNums y535), true)) = some (r1, r2) := by rw [if_pos rfl] at H; exact H
            clear H
            have H := H1
            clear H1
            simp only [Option.some.injEq, Prod.mk.injEq] at H
            obtain ⟨rfl, rfl⟩ := H
            go_wp2_with (first | ((with_reducible refine gate_dst (N := 32) rfl ?_); refine Kd.R_lit (Kd.int .u8) _ 5 ?hg (N := 32) ?hd (xs := ([(wrap64 (48 + (wrap64 (Int.tdiv a1 1000)))) % 256, (wrap64 (48 + (Int.tmod (wrap64 (Int.tdiv a1 100)) 10))) % 256, (wrap64 (48 + (Int.tmod (wrap64 (Int.tdiv a1 10)) 10))) % 256, (wrap64 (48 + (Int.tmod a1 10))) % 256] : List Int)) (inner := [.int .u8 ((wrap64 (48 + (wrap64 (Int.tdiv a1 1000)))) % 256), .int .u8 ((wrap64 (48 + (Int.tmod (wrap64 (Int.tdiv a1 100)) 10))) % 256), .int .u8 ((wrap64 (48 + (Int.tmod (wrap64 (Int.tdiv a1 10)) 10))) % 256), .int .u8 ((wrap64 (48 + (Int.tmod a1 10))) % 256)]) (ok := fun _ => True) (okp := fun _ => True) ?hr ?hp (fun _ hk => hk) trivial (Below.refl _ _) (Nat.le_refl _) (by simp) ?_; (case hd => rfl); (case hg => rfl); (case hr => first | (go_simp; done) | (go_simp; rfl)); (case hp => exact (Reps.one (show Kd.M (Kd.int .u8) _ _ _ ((wrap64 (48 + (wrap64 (Int.tdiv a1 1000)))) % 256) [.int .u8 ((wrap64 (48 + (wrap64 (Int.tdiv a1 1000)))) % 256)] from rfl) (Reps.one (show Kd.M (Kd.int .u8) _ _ _ ((wrap64 (48 + (Int.tmod (wrap64 (Int.tdiv a1 100)) 10))) % 256) [.int .u8 ((wrap64 (48 + (Int.tmod (wrap64 (Int.tdiv a1 100)) 10))) % 256)] from rfl) (Reps.one (show Kd.M (Kd.int .u8) _ _ _ ((wrap64 (48 + (Int.tmod (wrap64 (Int.tdiv a1 10)) 10))) % 256) [.int .u8 ((wrap64 (48 + (Int.tmod (wrap64 (Int.tdiv a1 10)) 10))) % 256)] from rfl) (Reps.one (show Kd.M (Kd.int .u8) _ _ _ ((wrap64 (48 + (Int.tmod a1 10))) % 256) [.int .u8 ((wrap64 (48 + (Int.tmod a1 10))) % 256)] from rfl) (Reps.none _ _)))))); intro v536 w9 ho10 hb hg_ hnew_; clear hg_ hnew_; (first | rw [← Ny535.out] at ho10 | (simp only [Int.reduceToNat] at ho10; rw [← Ny535.out] at ho10)); have n0_ := Aside0.mk (Kd.R_lower ho10 (below_size (kZ HB))); have n1_ := Aside0.mk (below_step (kZ HB) hb); clear HB; have HO537 := n0_; have HB := n1_; clear n0_ n1_; clear hb ho10; have hcv11 := own_string (P := Try.prog) Try.underlying73 Try.underlying5 Try.underlying9 (Kd.own_of_R HO537.out)) | ((with_reducible refine gate_callee (f := 50) rfl ?_); refine gL (some 36) Try.func50 #[.string (a0 ++ (strOfNums y535))] rfl rfl ?_; (with_reducible refine (cantonref01_Part.calls kj2 (a0 ++ (strOfNums y535)) true _ A7.out).mono ?_); rintro e w' ⟨rfl, ⟨nd, rfl⟩⟩; refine ⟨_, rfl, ?_⟩))
            go_ret2
            exact ⟨by first | rfl | (simp [errW_none, errW_some] <;> rfl) | (simp [*, errW_none, errW_some] <;> rfl), kZ HB⟩
          · replace c8 := Bool.eq_false_iff.mpr c8
            subst c8
            have H1 : (some ((⟨#[]⟩ : ByteArray), false)) = some (r1, r2) := by rw [if_neg (show ¬ (false = true) by decide)] at H; exact H
            clear H
            have H := H1
            clear H1
            simp only [Option.some.injEq, Prod.mk.injEq] at H
            obtain ⟨rfl, rfl⟩ := H
            go_wp2_with (first | ((with_reducible refine gate_dst (N := 32) rfl ?_); refine Kd.R_lit (Kd.int .u8) _ 5 ?hg (N := 32) ?hd (xs := ([(wrap64 (48 + (wrap64 (Int.tdiv a1 1000)))) % 256, (wrap64 (48 + (Int.tmod (wrap64 (Int.tdiv a1 100)) 10))) % 256, (wrap64 (48 + (Int.tmod (wrap64 (Int.tdiv a1 10)) 10))) % 256, (wrap64 (48 + (Int.tmod a1 10))) % 256] : List Int)) (inner := [.int .u8 ((wrap64 (48 + (wrap64 (Int.tdiv a1 1000)))) % 256), .int .u8 ((wrap64 (48 + (Int.tmod (wrap64 (Int.tdiv a1 100)) 10))) % 256), .int .u8 ((wrap64 (48 + (Int.tmod (wrap64 (Int.tdiv a1 10)) 10))) % 256), .int .u8 ((wrap64 (48 + (Int.tmod a1 10))) % 256)]) (ok := fun _ => True) (okp := fun _ => True) ?hr ?hp (fun _ hk => hk) trivial (Below.refl _ _) (Nat.le_refl _) (by simp) ?_; (case hd => rfl); (case hg => rfl); (case hr => first | (go_simp; done) | (go_simp; rfl)); (case hp => exact (Reps.one (show Kd.M (Kd.int .u8) _ _ _ ((wrap64 (48 + (wrap64 (Int.tdiv a1 1000)))) % 256) [.int .u8 ((wrap64 (48 + (wrap64 (Int.tdiv a1 1000)))) % 256)] from rfl) (Reps.one (show Kd.M (Kd.int .u8) _ _ _ ((wrap64 (48 + (Int.tmod (wrap64 (Int.tdiv a1 100)) 10))) % 256) [.int .u8 ((wrap64 (48 + (Int.tmod (wrap64 (Int.tdiv a1 100)) 10))) % 256)] from rfl) (Reps.one (show Kd.M (Kd.int .u8) _ _ _ ((wrap64 (48 + (Int.tmod (wrap64 (Int.tdiv a1 10)) 10))) % 256) [.int .u8 ((wrap64 (48 + (Int.tmod (wrap64 (Int.tdiv a1 10)) 10))) % 256)] from rfl) (Reps.one (show Kd.M (Kd.int .u8) _ _ _ ((wrap64 (48 + (Int.tmod a1 10))) % 256) [.int .u8 ((wrap64 (48 + (Int.tmod a1 10))) % 256)] from rfl) (Reps.none _ _)))))); intro v536 w12 ho13 hb hg_ hnew_; clear hg_ hnew_; (first | rw [← Ny535.out] at ho13 | (simp only [Int.reduceToNat] at ho13; rw [← Ny535.out] at ho13)); have n0_ := Aside0.mk (Kd.R_lower ho13 (below_size (kZ HB))); have n1_ := Aside0.mk (below_step (kZ HB) hb); clear HB; have HO537 := n0_; have HB := n1_; clear n0_ n1_; clear hb ho13; have hcv14 := own_string (P := Try.prog) Try.underlying73 Try.underlying5 Try.underlying9 (Kd.own_of_R HO537.out)) | ((with_reducible refine gate_callee (f := 50) rfl ?_); refine gL (some 36) Try.func50 #[.string (a0 ++ (strOfNums y535))] rfl rfl ?_; (with_reducible refine (cantonref01_Part.calls kj2 (a0 ++ (strOfNums y535)) false _ A7.out).mono ?_); rintro e w' ⟨rfl, ⟨nd, rfl⟩⟩; refine ⟨_, rfl, ?_⟩))
            go_ret2
            exact ⟨by first | rfl | (simp [errW_none, errW_some] <;> rfl) | (simp [*, errW_none, errW_some] <;> rfl), kZ HB⟩
        · rw [if_neg c6] at H
          exact absurd H (by simp)

/-! ### cantonlaw11_OwnedRoom: function 8 -/
def cantonlaw11_OwnedRoom.l0 : Nat → Int → Int → Bool → List (S45) → Int → Option (Bool)
  | 0, _, _, _, _, _ => none
  | k + 1, x0, x1, x5, x6, x7 => if x7 < (wrap64 (Int.tmod x0 60)) then ((cantonref01_Numbered.f k (⟨#[112]⟩ : ByteArray) x7).bind fun bt540 => (if 1 + bt540.1.size ≤ 9223372036854775807 then ((owned_Install.f k x6 ((⟨#[47]⟩ : ByteArray) ++ bt540.1) (wrap64 (x1))).bind fun bt542 => (if (bt542.2 != (decide (x7 < 32))) = true then (some false) else (if bt542.2 = true then (cantonlaw11_OwnedRoom.l0 k x0 x1 x5 bt542.1 (wrap64 (x7 + 1))) else (cantonlaw11_OwnedRoom.l0 k x0 x1 x5 x6 (wrap64 (x7 + 1)))))) else (none))) else (if (x6.length : Int) = 0 then (some x5) else ((owned_Install.f k x6 (⟨#[47, 112, 48, 48, 48, 48]⟩ : ByteArray) (wrap64 ((wrap64 (x1)) + 1))).bind fun bt546 => ((owned_Install.f k x6 (⟨#[47, 112, 48, 48, 48, 48]⟩ : ByteArray) (wrap64 (x1))).bind fun bt550 => (if x5 = true then (if bt546.2 = true then (if bt550.2 = true then (some false) else (some ((bt546.1.length : Int) == (x6.length : Int)))) else (some false)) else (some false)))))
def cantonlaw11_OwnedRoom.f (k : Nat) (a0 : Int) (a1 : Int) : Option (Bool) := (cantonlaw11_head.f k).bind fun t539 => (cantonlaw11_OwnedRoom.l0 k a0 a1 t539 ([] : List (S45)) 0)
theorem cantonlaw11_OwnedRoom.mono_l : ∀ k, (∀ y0 y1 y2 y3 y4, LeO (cantonlaw11_OwnedRoom.l0 k y0 y1 y2 y3 y4) (cantonlaw11_OwnedRoom.l0 (k + 1) y0 y1 y2 y3 y4))
  | 0 => fun _ _ _ _ _ r h => by simp [cantonlaw11_OwnedRoom.l0] at h
  | k + 1 => by
    have ih0 := cantonlaw11_OwnedRoom.mono_l k
    · intro y0 y1 y2 y3 y4
      unfold cantonlaw11_OwnedRoom.l0
      repeat' first
      | (with_reducible exact ih0 _ _ _ _ _)
      | (with_reducible exact cantonlaw11_head.mono _)
      | (with_reducible exact cantonref01_Numbered.mono _ _ _)
      | (with_reducible exact owned_Install.mono _ _ _ _)
      | (with_reducible exact LeO.refl _)
      | (with_reducible exact LeO.none _)
      | (with_reducible refine LeO.ite ?_ ?_)
      | (with_reducible refine LeO.bind ?_ (fun _ => ?_))
      | exact ih0 _ _ _ _ _
      | exact cantonlaw11_head.mono _
      | exact cantonref01_Numbered.mono _ _ _
      | exact owned_Install.mono _ _ _ _
      | exact LeO.none _
      | refine LeO.ite ?_ ?_
      | refine LeO.bind ?_ (fun _ => ?_)
theorem cantonlaw11_OwnedRoom.mono : ∀ a0 a1 k, LeO (cantonlaw11_OwnedRoom.f k a0 a1) (cantonlaw11_OwnedRoom.f (k + 1) a0 a1) := by
  intro a0 a1 k
  have ih0 := cantonlaw11_OwnedRoom.mono_l k
  unfold cantonlaw11_OwnedRoom.f
  repeat' first
      | (with_reducible exact ih0 _ _ _ _ _)
      | (with_reducible exact cantonlaw11_head.mono _)
      | (with_reducible exact cantonref01_Numbered.mono _ _ _)
      | (with_reducible exact owned_Install.mono _ _ _ _)
      | (with_reducible exact LeO.refl _)
      | (with_reducible exact LeO.none _)
      | (with_reducible refine LeO.ite ?_ ?_)
      | (with_reducible refine LeO.bind ?_ (fun _ => ?_))
      | exact ih0 _ _ _ _ _
      | exact cantonlaw11_head.mono _
      | exact cantonref01_Numbered.mono _ _ _
      | exact owned_Install.mono _ _ _ _
      | exact LeO.none _
      | refine LeO.ite ?_ ?_
      | refine LeO.bind ?_ (fun _ => ?_)
set_option maxHeartbeats 8000000 in
set_option maxRecDepth 100000 in
theorem cantonlaw11_OwnedRoom.calls (k : Nat) (a0 : Int) (a1 : Int) (r : Bool) (w : World) (h : cantonlaw11_OwnedRoom.f k a0 a1 = some r) :
    Calls Try.prog 8 #[.int .u8 a0, .int .u16 a1] w fun e w' => e = .returned (.bool r) ∧ Below w.heap.size w w' := by
  have HB := Aside0.mk (Below.refl w.heap.size w)
  have H : ((cantonlaw11_head.f k).bind fun t539 => (cantonlaw11_OwnedRoom.l0 k a0 a1 t539 ([] : List (S45)) 0)) = some r := h
  clear h
  replace H := Option.bind_eq_some_iff.mp H
  obtain ⟨t539, A30, H⟩ := H
  replace H : (cantonlaw11_OwnedRoom.l0 k a0 a1 t539 ([] : List (S45)) 0) = some r := H
  have A3 := Aside0.mk A30
  clear A30
  have H' := Aside0.mk H
  clear H
  go_enter Try.func8, Try.ntmps8
  go_wp2_with (first | ((with_reducible refine gate_callee (f := 9) rfl ?_); refine gL (some 16) Try.func9 #[] rfl rfl ?_; (with_reducible refine (cantonlaw11_head.calls k  t539 _ A3.out).mono ?_); rintro e w4 ⟨rfl, hb⟩; refine ⟨_, rfl, ?_⟩; have n0_ := Aside0.mk (below_step (kZ HB) hb); clear HB; have HB := n0_; clear n0_; (try clear hb); (try clear hb2); (try clear hk); (try clear hi)))
  go_loopg [6, 7] k (fun kq v6 v7 w' => ∃ (x6_1 : List (S45)) (x7_1 : Int), v7 = .int .i64 x7_1 ∧ Aside0 (cantonlaw11_OwnedRoom.l0 kq a0 a1 t539 x6_1 x7_1 = some r) ∧ Aside0 (kq ≤ k) ∧ Aside0 (Kd.R k45 45 w' w.heap.size (fun _ => True) v6 x6_1) ∧ Aside0 (Below w.heap.size w w'))
  case atStart => exact ⟨(([] : List (S45))), (0), (by first | rfl | (simp; done) | (simp [*]; done)), H', ⟨Nat.le_refl _⟩, ⟨by first | exact Kd.R_nil _ _ _ _ _ | exact Kd.N_nil _ _ _ _ _ | exact Kd.V_nil _ _ _ _ _ | exact Kd.Q_nil _ _ _ _ _ | exact Kd.S_nil _ _ _ _ _⟩, ⟨kZ HB⟩⟩
  case round =>
    clear H'
    try clear p2
    obtain ⟨x6_1, x7_1, rfl, HA, HK1, HO_6, HB⟩ := hrel
    cases gk with
    | zero => exact absurd HA.out (by simp [cantonlaw11_OwnedRoom.l0])
    | succ k1 =>
      have H := HA.out
      clear HA
      simp only [cantonlaw11_OwnedRoom.l0] at H
      by_cases c5 : x7_1 < (wrap64 (Int.tmod a0 60))
      · rw [if_pos c5] at H
        have c5b0 : decide (x7_1 < (wrap64 (Int.tmod a0 60))) = true := decide_eq_true c5
        clear c5
        replace H := Option.bind_eq_some_iff.mp H
        obtain ⟨⟨t540, t541⟩, A60, H⟩ := H
        replace H : (if 1 + t540.size ≤ 9223372036854775807 then ((owned_Install.f k1 x6_1 ((⟨#[47]⟩ : ByteArray) ++ t540) (wrap64 (a1))).bind fun bt542 => (if (bt542.2 != (decide (x7_1 < 32))) = true then (some false) else (if bt542.2 = true then (cantonlaw11_OwnedRoom.l0 k1 a0 a1 t539 bt542.1 (wrap64 (x7_1 + 1))) else (cantonlaw11_OwnedRoom.l0 k1 a0 a1 t539 x6_1 (wrap64 (x7_1 + 1)))))) else (none)) = some r := H
        have A6 := Aside0.mk A60
        clear A60
        by_cases c7 : 1 + t540.size ≤ 9223372036854775807
        · rw [if_pos c7] at H
          have c7b0 := eq_true c7
          have c7b1 : decide (1 + t540.size ≤ 9223372036854775807) = true := decide_eq_true c7
          try have c7b2 : (9223372036854775807 < 1 + t540.size) = False := eq_false (Nat.not_lt.2 c7)
          replace H := Option.bind_eq_some_iff.mp H
          obtain ⟨⟨t542, t543⟩, A80, H⟩ := H
          replace H : (if (t543 != (decide (x7_1 < 32))) = true then (some false) else (if t543 = true then (cantonlaw11_OwnedRoom.l0 k1 a0 a1 t539 t542 (wrap64 (x7_1 + 1))) else (cantonlaw11_OwnedRoom.l0 k1 a0 a1 t539 x6_1 (wrap64 (x7_1 + 1))))) = some r := H
          have A8 := Aside0.mk A80
          clear A80
          by_cases c9 : (t543 != (decide (x7_1 < 32))) = true
          · rw [if_pos c9] at H
            have c9b0 : (t543 != (decide (x7_1 < 32))) = true := c9
            (try (have c9b1 : decide (t543 = (decide (x7_1 < 32))) = false := by simpa using c9))
            (try (have c9b2 : (t543 == (decide (x7_1 < 32))) = false := by simpa using c9))
            (try (have c9b3 : ¬ (t543 = (decide (x7_1 < 32))) := by simpa using c9))
            clear c9
            obtain rfl := Option.some.inj H
            go_wp2_with (first | ((with_reducible refine gate_callee (f := 31) rfl ?_); refine gL (some 26) Try.func31 #[.string (⟨#[112]⟩ : ByteArray), .int .i64 x7_1] rfl rfl ?_; (with_reducible refine (cantonref01_Numbered.calls k1 (⟨#[112]⟩ : ByteArray) x7_1 t540 t541 _ A6.out).mono ?_); rintro e w10 ⟨rfl, hb⟩; refine ⟨_, rfl, ?_⟩; have n0_ := Aside0.mk (Kd.R_below (kR HO_6) hb); have n1_ := Aside0.mk (below_step (kZ HB) hb); clear HO_6; clear HB; have HO_6 := n0_; have HB := n1_; clear n0_ n1_; (try clear hb); (try clear hb2); (try clear hk); (try clear hi); obtain ⟨Ao11, co11, eo11⟩ := Kd.R_slice HO_6.out; subst eo11) | ((with_reducible refine gate_callee (f := 13) rfl ?_); refine gL (some 35) Try.func13 #[.slice Ao11 x6_1.length co11, .string ((⟨#[47]⟩ : ByteArray) ++ t540), .int .i64 (wrap64 (a1))] rfl rfl ?_; (with_reducible refine (owned_Install.calls k1 _ _ x6_1 ((⟨#[47]⟩ : ByteArray) ++ t540) (wrap64 (a1)) t542 t543 _ ?side1 ?side2 A8.out).mono ?_); (case side1 => exact kC ((Kd.R_reads' HO_6.out).2.2)); (case side2 => exact (Kd.R_reads' HO_6.out).2.1); rintro e w12 ⟨v544, rfl, ho0, hb⟩; refine ⟨_, rfl, ?_⟩; have n0_ := Aside0.mk (Kd.R_elder' (kR HO_6) (Kd.R_base ho0) hb); have n1_ := Aside0.mk (Kd.R_lower (Kd.R_new' ho0 (Kd.R_lt (kR HO_6))) (below_size (kZ HB))); have n2_ := Aside0.mk (below_step (kZ HB) hb); clear HO_6; clear HB; have HO_6 := n0_; have HO545 := n1_; have HB := n2_; clear n0_ n1_ n2_; (try clear hb); (try clear hb2); (try clear hk); (try clear hi); (try clear ho0)))
            go_ret
            exact ⟨by first | rfl | (simp [errW_none, errW_some] <;> rfl) | (simp [*, errW_none, errW_some] <;> rfl), kZ HB⟩
          · rw [if_neg c9] at H
            have c9b0 : (t543 != (decide (x7_1 < 32))) = false := by simpa using c9
            (try (have c9b1 : decide (t543 = (decide (x7_1 < 32))) = true := by simpa using c9))
            (try (have c9b2 : (t543 == (decide (x7_1 < 32))) = true := by simpa using c9))
            clear c9
            by_cases c13 : t543 = true
            · subst c13
              have H1 : (cantonlaw11_OwnedRoom.l0 k1 a0 a1 t539 t542 (wrap64 (x7_1 + 1))) = some r := by rw [if_pos rfl] at H; exact H
              clear H
              have H := H1
              clear H1
              have H' := Aside0.mk H
              clear H
              go_wp2_with (first | ((with_reducible refine gate_callee (f := 31) rfl ?_); refine gL (some 26) Try.func31 #[.string (⟨#[112]⟩ : ByteArray), .int .i64 x7_1] rfl rfl ?_; (with_reducible refine (cantonref01_Numbered.calls k1 (⟨#[112]⟩ : ByteArray) x7_1 t540 t541 _ A6.out).mono ?_); rintro e w14 ⟨rfl, hb⟩; refine ⟨_, rfl, ?_⟩; have n0_ := Aside0.mk (Kd.R_below (kR HO_6) hb); have n1_ := Aside0.mk (below_step (kZ HB) hb); clear HO_6; clear HB; have HO_6 := n0_; have HB := n1_; clear n0_ n1_; (try clear hb); (try clear hb2); (try clear hk); (try clear hi); obtain ⟨Ao15, co15, eo15⟩ := Kd.R_slice HO_6.out; subst eo15) | ((with_reducible refine gate_callee (f := 13) rfl ?_); refine gL (some 35) Try.func13 #[.slice Ao15 x6_1.length co15, .string ((⟨#[47]⟩ : ByteArray) ++ t540), .int .i64 (wrap64 (a1))] rfl rfl ?_; (with_reducible refine (owned_Install.calls k1 _ _ x6_1 ((⟨#[47]⟩ : ByteArray) ++ t540) (wrap64 (a1)) t542 true _ ?side1 ?side2 A8.out).mono ?_); (case side1 => exact kC ((Kd.R_reads' HO_6.out).2.2)); (case side2 => exact (Kd.R_reads' HO_6.out).2.1); rintro e w16 ⟨v544, rfl, ho0, hb⟩; refine ⟨_, rfl, ?_⟩; have n0_ := Aside0.mk (Kd.R_elder' (kR HO_6) (Kd.R_base ho0) hb); have n1_ := Aside0.mk (Kd.R_lower (Kd.R_new' ho0 (Kd.R_lt (kR HO_6))) (below_size (kZ HB))); have n2_ := Aside0.mk (below_step (kZ HB) hb); clear HO_6; clear HB; have HO_6 := n0_; have HO545 := n1_; have HB := n2_; clear n0_ n1_ n2_; (try clear hb); (try clear hb2); (try clear hk); (try clear hi); (try clear ho0)))
              go_roundg k1
              case measure => have := HK1.out; omega
              case rel => exact ⟨(t542), (wrap64 (x7_1 + 1)), (by first | rfl | (simp; done) | (simp [*]; done)), H', ⟨by have := HK1.out; omega⟩, ⟨by (with_reducible repeat (first | apply Kd.R_alloc | apply Kd.R_drewN | apply Kd.R_drew)); exact Kd.R_mono HO545.out (fun _ hk => trivial)⟩, ⟨kZ HB⟩⟩
            · replace c13 := Bool.eq_false_iff.mpr c13
              subst c13
              have H1 : (cantonlaw11_OwnedRoom.l0 k1 a0 a1 t539 x6_1 (wrap64 (x7_1 + 1))) = some r := by rw [if_neg (show ¬ (false = true) by decide)] at H; exact H
              clear H
              have H := H1
              clear H1
              have H' := Aside0.mk H
              clear H
              go_wp2_with (first | ((with_reducible refine gate_callee (f := 31) rfl ?_); refine gL (some 26) Try.func31 #[.string (⟨#[112]⟩ : ByteArray), .int .i64 x7_1] rfl rfl ?_; (with_reducible refine (cantonref01_Numbered.calls k1 (⟨#[112]⟩ : ByteArray) x7_1 t540 t541 _ A6.out).mono ?_); rintro e w17 ⟨rfl, hb⟩; refine ⟨_, rfl, ?_⟩; have n0_ := Aside0.mk (Kd.R_below (kR HO_6) hb); have n1_ := Aside0.mk (below_step (kZ HB) hb); clear HO_6; clear HB; have HO_6 := n0_; have HB := n1_; clear n0_ n1_; (try clear hb); (try clear hb2); (try clear hk); (try clear hi); obtain ⟨Ao18, co18, eo18⟩ := Kd.R_slice HO_6.out; subst eo18) | ((with_reducible refine gate_callee (f := 13) rfl ?_); refine gL (some 35) Try.func13 #[.slice Ao18 x6_1.length co18, .string ((⟨#[47]⟩ : ByteArray) ++ t540), .int .i64 (wrap64 (a1))] rfl rfl ?_; (with_reducible refine (owned_Install.calls k1 _ _ x6_1 ((⟨#[47]⟩ : ByteArray) ++ t540) (wrap64 (a1)) t542 false _ ?side1 ?side2 A8.out).mono ?_); (case side1 => exact kC ((Kd.R_reads' HO_6.out).2.2)); (case side2 => exact (Kd.R_reads' HO_6.out).2.1); rintro e w19 ⟨v544, rfl, ho0, hb⟩; refine ⟨_, rfl, ?_⟩; have n0_ := Aside0.mk (Kd.R_elder' (kR HO_6) (Kd.R_base ho0) hb); have n1_ := Aside0.mk (Kd.R_lower (Kd.R_new' ho0 (Kd.R_lt (kR HO_6))) (below_size (kZ HB))); have n2_ := Aside0.mk (below_step (kZ HB) hb); clear HO_6; clear HB; have HO_6 := n0_; have HO545 := n1_; have HB := n2_; clear n0_ n1_ n2_; (try clear hb); (try clear hb2); (try clear hk); (try clear hi); (try clear ho0)))
              go_roundg k1
              case measure => have := HK1.out; omega
              case rel => exact ⟨(x6_1), (wrap64 (x7_1 + 1)), (by first | rfl | (simp; done) | (simp [*]; done)), H', ⟨by have := HK1.out; omega⟩, ⟨by (with_reducible repeat (first | apply Kd.R_alloc | apply Kd.R_drewN | apply Kd.R_drew)); exact Kd.R_mono HO_6.out (fun _ hk => trivial)⟩, ⟨kZ HB⟩⟩
        · rw [if_neg c7] at H
          exact absurd H (by simp)
      · rw [if_neg c5] at H
        have c5b0 : decide (x7_1 < (wrap64 (Int.tmod a0 60))) = false := decide_eq_false c5
        clear c5
        by_cases c20 : (x6_1.length : Int) = 0
        · rw [if_pos c20] at H
          have c20b0 : ((x6_1.length : Int) == 0) = true := beq_iff_eq.mpr c20
          have c20b1 : ((x6_1.length : Int) != 0) = false := bne_eq_false_iff_eq.mpr c20
          clear c20
          obtain rfl := Option.some.inj H
          obtain ⟨Ao21, co21, eo21⟩ := Kd.R_slice HO_6.out
          subst eo21
          go_wp2
          go_ret
          exact ⟨by first | rfl | (simp [errW_none, errW_some] <;> rfl) | (simp [*, errW_none, errW_some] <;> rfl), kZ HB⟩
        · rw [if_neg c20] at H
          have c20b0 : ((x6_1.length : Int) == 0) = false := beq_eq_false_iff_ne.mpr c20
          have c20b1 : ((x6_1.length : Int) != 0) = true := bne_iff_ne.mpr c20
          have c20b2 : ¬ (x6_1 = []) := fun h_ => c20 (by rw [h_]; rfl)
          replace H := Option.bind_eq_some_iff.mp H
          obtain ⟨⟨t546, t547⟩, A220, H⟩ := H
          replace H : ((owned_Install.f k1 x6_1 (⟨#[47, 112, 48, 48, 48, 48]⟩ : ByteArray) (wrap64 (a1))).bind fun bt550 => (if t539 = true then (if t547 = true then (if bt550.2 = true then (some false) else (some ((t546.length : Int) == (x6_1.length : Int)))) else (some false)) else (some false))) = some r := H
          have A22 := Aside0.mk A220
          clear A220
          replace H := Option.bind_eq_some_iff.mp H
          obtain ⟨⟨t550, t551⟩, A230, H⟩ := H
          replace H : (if t539 = true then (if t547 = true then (if t551 = true then (some false) else (some ((t546.length : Int) == (x6_1.length : Int)))) else (some false)) else (some false)) = some r := H
          have A23 := Aside0.mk A230
          clear A230
          by_cases c24 : t539 = true
          · subst c24
            have H1 : (if t547 = true then (if t551 = true then (some false) else (some ((t546.length : Int) == (x6_1.length : Int)))) else (some false)) = some r := by rw [if_pos rfl] at H; exact H
            clear H
            have H := H1
            clear H1
            by_cases c25 : t547 = true
            · subst c25
              have H1 : (if t551 = true then (some false) else (some ((t546.length : Int) == (x6_1.length : Int)))) = some r := by rw [if_pos rfl] at H; exact H
              clear H
              have H := H1
              clear H1
              by_cases c26 : t551 = true
              · subst c26
                have H1 : (some false) = some r := by rw [if_pos rfl] at H; exact H
                clear H
                have H := H1
                clear H1
                obtain rfl := Option.some.inj H
                obtain ⟨Ao27, co27, eo27⟩ := Kd.R_slice HO_6.out
                subst eo27
                go_wp2_with (first | ((with_reducible refine gate_callee (f := 13) rfl ?_); refine gL (some 53) Try.func13 #[.slice Ao27 x6_1.length co27, .string (⟨#[47, 112, 48, 48, 48, 48]⟩ : ByteArray), .int .i64 (wrap64 ((wrap64 (a1)) + 1))] rfl rfl ?_; (with_reducible refine (owned_Install.calls k1 _ _ x6_1 (⟨#[47, 112, 48, 48, 48, 48]⟩ : ByteArray) (wrap64 ((wrap64 (a1)) + 1)) t546 true _ ?side1 ?side2 A22.out).mono ?_); (case side1 => exact kC ((Kd.R_reads' HO_6.out).2.2)); (case side2 => exact (Kd.R_reads' HO_6.out).2.1); rintro e w28 ⟨v548, rfl, ho0, hb⟩; refine ⟨_, rfl, ?_⟩; have n0_ := Aside0.mk (Kd.R_elder' (kR HO_6) (Kd.R_base ho0) hb); have n1_ := Aside0.mk (Kd.R_lower (Kd.R_new' ho0 (Kd.R_lt (kR HO_6))) (below_size (kZ HB))); have n2_ := Aside0.mk (below_step (kZ HB) hb); clear HO_6; clear HB; have HO_6 := n0_; have HO549 := n1_; have HB := n2_; clear n0_ n1_ n2_; (try clear hb); (try clear hb2); (try clear hk); (try clear hi); (try clear ho0)) | ((with_reducible refine gate_callee (f := 13) rfl ?_); refine gL (some 60) Try.func13 #[.slice Ao27 x6_1.length co27, .string (⟨#[47, 112, 48, 48, 48, 48]⟩ : ByteArray), .int .i64 (wrap64 (a1))] rfl rfl ?_; (with_reducible refine (owned_Install.calls k1 _ _ x6_1 (⟨#[47, 112, 48, 48, 48, 48]⟩ : ByteArray) (wrap64 (a1)) t550 true _ ?side1 ?side2 A23.out).mono ?_); (case side1 => exact kC ((Kd.R_reads' HO_6.out).2.2)); (case side2 => exact (Kd.R_reads' HO_6.out).2.1); rintro e w29 ⟨v552, rfl, ho0, hb⟩; refine ⟨_, rfl, ?_⟩; have n0_ := Aside0.mk (Kd.R_elder' (kR HO_6) (Kd.R_base ho0) hb); have n1_ := Aside0.mk (Kd.R_elder' (kR HO549) (Kd.R_base ho0) hb); have n2_ := Aside0.mk (Kd.R_lower (Kd.R_new' (Kd.R_new' ho0 (Kd.R_lt (kR HO_6))) (Kd.R_lt (kR HO549))) (below_size (kZ HB))); have n3_ := Aside0.mk (below_step (kZ HB) hb); clear HO_6; clear HO549; clear HB; have HO_6 := n0_; have HO549 := n1_; have HO553 := n2_; have HB := n3_; clear n0_ n1_ n2_ n3_; (try clear hb); (try clear hb2); (try clear hk); (try clear hi); (try clear ho0)))
                go_ret
                exact ⟨by first | rfl | (simp [errW_none, errW_some] <;> rfl) | (simp [*, errW_none, errW_some] <;> rfl), kZ HB⟩
              · replace c26 := Bool.eq_false_iff.mpr c26
                subst c26
                have H1 : (some ((t546.length : Int) == (x6_1.length : Int))) = some r := by rw [if_neg (show ¬ (false = true) by decide)] at H; exact H
                clear H
                have H := H1
                clear H1
                obtain rfl := Option.some.inj H
                obtain ⟨Ao30, co30, eo30⟩ := Kd.R_slice HO_6.out
                subst eo30
                go_wp2_with (first | ((with_reducible refine gate_callee (f := 13) rfl ?_); refine gL (some 53) Try.func13 #[.slice Ao30 x6_1.length co30, .string (⟨#[47, 112, 48, 48, 48, 48]⟩ : ByteArray), .int .i64 (wrap64 ((wrap64 (a1)) + 1))] rfl rfl ?_; (with_reducible refine (owned_Install.calls k1 _ _ x6_1 (⟨#[47, 112, 48, 48, 48, 48]⟩ : ByteArray) (wrap64 ((wrap64 (a1)) + 1)) t546 true _ ?side1 ?side2 A22.out).mono ?_); (case side1 => exact kC ((Kd.R_reads' HO_6.out).2.2)); (case side2 => exact (Kd.R_reads' HO_6.out).2.1); rintro e w31 ⟨v548, rfl, ho0, hb⟩; refine ⟨_, rfl, ?_⟩; have n0_ := Aside0.mk (Kd.R_elder' (kR HO_6) (Kd.R_base ho0) hb); have n1_ := Aside0.mk (Kd.R_lower (Kd.R_new' ho0 (Kd.R_lt (kR HO_6))) (below_size (kZ HB))); have n2_ := Aside0.mk (below_step (kZ HB) hb); clear HO_6; clear HB; have HO_6 := n0_; have HO549 := n1_; have HB := n2_; clear n0_ n1_ n2_; (try clear hb); (try clear hb2); (try clear hk); (try clear hi); (try clear ho0)) | ((with_reducible refine gate_callee (f := 13) rfl ?_); refine gL (some 60) Try.func13 #[.slice Ao30 x6_1.length co30, .string (⟨#[47, 112, 48, 48, 48, 48]⟩ : ByteArray), .int .i64 (wrap64 (a1))] rfl rfl ?_; (with_reducible refine (owned_Install.calls k1 _ _ x6_1 (⟨#[47, 112, 48, 48, 48, 48]⟩ : ByteArray) (wrap64 (a1)) t550 false _ ?side1 ?side2 A23.out).mono ?_); (case side1 => exact kC ((Kd.R_reads' HO_6.out).2.2)); (case side2 => exact (Kd.R_reads' HO_6.out).2.1); rintro e w32 ⟨v552, rfl, ho0, hb⟩; refine ⟨_, rfl, ?_⟩; have n0_ := Aside0.mk (Kd.R_elder' (kR HO_6) (Kd.R_base ho0) hb); have n1_ := Aside0.mk (Kd.R_elder' (kR HO549) (Kd.R_base ho0) hb); have n2_ := Aside0.mk (Kd.R_lower (Kd.R_new' (Kd.R_new' ho0 (Kd.R_lt (kR HO_6))) (Kd.R_lt (kR HO549))) (below_size (kZ HB))); have n3_ := Aside0.mk (below_step (kZ HB) hb); clear HO_6; clear HO549; clear HB; have HO_6 := n0_; have HO549 := n1_; have HO553 := n2_; have HB := n3_; clear n0_ n1_ n2_ n3_; (try clear hb); (try clear hb2); (try clear hk); (try clear hi); (try clear ho0); obtain ⟨Ao33, co33, eo33⟩ := Kd.R_slice HO549.out; subst eo33))
                go_ret
                exact ⟨by first | rfl | (simp [errW_none, errW_some] <;> rfl) | (simp [*, errW_none, errW_some] <;> rfl), kZ HB⟩
            · replace c25 := Bool.eq_false_iff.mpr c25
              subst c25
              have H1 : (some false) = some r := by rw [if_neg (show ¬ (false = true) by decide)] at H; exact H
              clear H
              have H := H1
              clear H1
              obtain rfl := Option.some.inj H
              obtain ⟨Ao34, co34, eo34⟩ := Kd.R_slice HO_6.out
              subst eo34
              go_wp2_with (first | ((with_reducible refine gate_callee (f := 13) rfl ?_); refine gL (some 53) Try.func13 #[.slice Ao34 x6_1.length co34, .string (⟨#[47, 112, 48, 48, 48, 48]⟩ : ByteArray), .int .i64 (wrap64 ((wrap64 (a1)) + 1))] rfl rfl ?_; (with_reducible refine (owned_Install.calls k1 _ _ x6_1 (⟨#[47, 112, 48, 48, 48, 48]⟩ : ByteArray) (wrap64 ((wrap64 (a1)) + 1)) t546 false _ ?side1 ?side2 A22.out).mono ?_); (case side1 => exact kC ((Kd.R_reads' HO_6.out).2.2)); (case side2 => exact (Kd.R_reads' HO_6.out).2.1); rintro e w35 ⟨v548, rfl, ho0, hb⟩; refine ⟨_, rfl, ?_⟩; have n0_ := Aside0.mk (Kd.R_elder' (kR HO_6) (Kd.R_base ho0) hb); have n1_ := Aside0.mk (Kd.R_lower (Kd.R_new' ho0 (Kd.R_lt (kR HO_6))) (below_size (kZ HB))); have n2_ := Aside0.mk (below_step (kZ HB) hb); clear HO_6; clear HB; have HO_6 := n0_; have HO549 := n1_; have HB := n2_; clear n0_ n1_ n2_; (try clear hb); (try clear hb2); (try clear hk); (try clear hi); (try clear ho0)) | ((with_reducible refine gate_callee (f := 13) rfl ?_); refine gL (some 60) Try.func13 #[.slice Ao34 x6_1.length co34, .string (⟨#[47, 112, 48, 48, 48, 48]⟩ : ByteArray), .int .i64 (wrap64 (a1))] rfl rfl ?_; (with_reducible refine (owned_Install.calls k1 _ _ x6_1 (⟨#[47, 112, 48, 48, 48, 48]⟩ : ByteArray) (wrap64 (a1)) t550 t551 _ ?side1 ?side2 A23.out).mono ?_); (case side1 => exact kC ((Kd.R_reads' HO_6.out).2.2)); (case side2 => exact (Kd.R_reads' HO_6.out).2.1); rintro e w36 ⟨v552, rfl, ho0, hb⟩; refine ⟨_, rfl, ?_⟩; have n0_ := Aside0.mk (Kd.R_elder' (kR HO_6) (Kd.R_base ho0) hb); have n1_ := Aside0.mk (Kd.R_elder' (kR HO549) (Kd.R_base ho0) hb); have n2_ := Aside0.mk (Kd.R_lower (Kd.R_new' (Kd.R_new' ho0 (Kd.R_lt (kR HO_6))) (Kd.R_lt (kR HO549))) (below_size (kZ HB))); have n3_ := Aside0.mk (below_step (kZ HB) hb); clear HO_6; clear HO549; clear HB; have HO_6 := n0_; have HO549 := n1_; have HO553 := n2_; have HB := n3_; clear n0_ n1_ n2_ n3_; (try clear hb); (try clear hb2); (try clear hk); (try clear hi); (try clear ho0)))
              go_ret
              exact ⟨by first | rfl | (simp [errW_none, errW_some] <;> rfl) | (simp [*, errW_none, errW_some] <;> rfl), kZ HB⟩
          · replace c24 := Bool.eq_false_iff.mpr c24
            subst c24
            have H1 : (some false) = some r := by rw [if_neg (show ¬ (false = true) by decide)] at H; exact H
            clear H
            have H := H1
            clear H1
            obtain rfl := Option.some.inj H
            obtain ⟨Ao37, co37, eo37⟩ := Kd.R_slice HO_6.out
            subst eo37
            go_wp2_with (first | ((with_reducible refine gate_callee (f := 13) rfl ?_); refine gL (some 53) Try.func13 #[.slice Ao37 x6_1.length co37, .string (⟨#[47, 112, 48, 48, 48, 48]⟩ : ByteArray), .int .i64 (wrap64 ((wrap64 (a1)) + 1))] rfl rfl ?_; (with_reducible refine (owned_Install.calls k1 _ _ x6_1 (⟨#[47, 112, 48, 48, 48, 48]⟩ : ByteArray) (wrap64 ((wrap64 (a1)) + 1)) t546 t547 _ ?side1 ?side2 A22.out).mono ?_); (case side1 => exact kC ((Kd.R_reads' HO_6.out).2.2)); (case side2 => exact (Kd.R_reads' HO_6.out).2.1); rintro e w38 ⟨v548, rfl, ho0, hb⟩; refine ⟨_, rfl, ?_⟩; have n0_ := Aside0.mk (Kd.R_elder' (kR HO_6) (Kd.R_base ho0) hb); have n1_ := Aside0.mk (Kd.R_lower (Kd.R_new' ho0 (Kd.R_lt (kR HO_6))) (below_size (kZ HB))); have n2_ := Aside0.mk (below_step (kZ HB) hb); clear HO_6; clear HB; have HO_6 := n0_; have HO549 := n1_; have HB := n2_; clear n0_ n1_ n2_; (try clear hb); (try clear hb2); (try clear hk); (try clear hi); (try clear ho0)) | ((with_reducible refine gate_callee (f := 13) rfl ?_); refine gL (some 60) Try.func13 #[.slice Ao37 x6_1.length co37, .string (⟨#[47, 112, 48, 48, 48, 48]⟩ : ByteArray), .int .i64 (wrap64 (a1))] rfl rfl ?_; (with_reducible refine (owned_Install.calls k1 _ _ x6_1 (⟨#[47, 112, 48, 48, 48, 48]⟩ : ByteArray) (wrap64 (a1)) t550 t551 _ ?side1 ?side2 A23.out).mono ?_); (case side1 => exact kC ((Kd.R_reads' HO_6.out).2.2)); (case side2 => exact (Kd.R_reads' HO_6.out).2.1); rintro e w39 ⟨v552, rfl, ho0, hb⟩; refine ⟨_, rfl, ?_⟩; have n0_ := Aside0.mk (Kd.R_elder' (kR HO_6) (Kd.R_base ho0) hb); have n1_ := Aside0.mk (Kd.R_elder' (kR HO549) (Kd.R_base ho0) hb); have n2_ := Aside0.mk (Kd.R_lower (Kd.R_new' (Kd.R_new' ho0 (Kd.R_lt (kR HO_6))) (Kd.R_lt (kR HO549))) (below_size (kZ HB))); have n3_ := Aside0.mk (below_step (kZ HB) hb); clear HO_6; clear HO549; clear HB; have HO_6 := n0_; have HO549 := n1_; have HO553 := n2_; have HB := n3_; clear n0_ n1_ n2_ n3_; (try clear hb); (try clear hb2); (try clear hk); (try clear hi); (try clear ho0)))
            go_ret
            exact ⟨by first | rfl | (simp [errW_none, errW_some] <;> rfl) | (simp [*, errW_none, errW_some] <;> rfl), kZ HB⟩

/-- THE ONE PURE STATEMENT of cantonlaw11_OwnedRoom: yours. -/
def cantonlaw11_OwnedRoom.Pure : Prop := ∀ (a0 : Int) (a1 : Int), (Lit.int .u8 a0).wf = true → (Lit.int .u16 a1).wf = true → ∃ k, cantonlaw11_OwnedRoom.f k a0 a1 = some true
theorem cantonlaw11_OwnedRoom.walk (P : cantonlaw11_OwnedRoom.Pure) (a0 : Int) (a1 : Int) (w : World) (w0 : (Lit.int .u8 a0).wf = true) (w1 : (Lit.int .u16 a1).wf = true) :
    Calls Try.prog 8 #[.int .u8 a0, .int .u16 a1] w fun e w' => e = .returned (.bool true) ∧ Below w.heap.size w w' := by
  obtain ⟨k, h⟩ := P a0 a1 w0 w1
  refine (cantonlaw11_OwnedRoom.calls k a0 a1 true w h).mono ?_
  rintro e w' ⟨rfl, hd⟩
  exact ⟨rfl, hd⟩

end Go.Proofs.Ytinjajpnbbknnaa.Q
