-- Written by a program of this session (xprint) out of the translation; over contracts proved by hand.
import Derived.Test.YtinjajpnbbknnaaQx0
import Derived.Test.YtinjajpnbbknnaaSq
import Derived.Test.YtinjajpnbbknnaaSplit
namespace Go.Proofs.Ytinjajpnbbknnaa.Cut2
end Go.Proofs.Ytinjajpnbbknnaa.Cut2
namespace Go.Proofs.Ytinjajpnbbknnaa.RPut
end Go.Proofs.Ytinjajpnbbknnaa.RPut
namespace Go.Proofs.Ytinjajpnbbknnaa.Split
end Go.Proofs.Ytinjajpnbbknnaa.Split
namespace Go.Proofs.Ytinjajpnbbknnaa.Q
open Go.Proofs.Ytinjajpnbbknnaa.Cut2 Go.Proofs.Ytinjajpnbbknnaa.RPut Go.Proofs.Ytinjajpnbbknnaa.Split
set_option linter.unnecessarySimpa false
open Go.RowKit Go.Proofs.YtinjajpnbbknnaaW.PrintWords Go.Proofs.YtinjajpnbbknnaaW.PrintLast Go.Proofs.YtinjajpnbbknnaaW.PrintMore
attribute [local go_sem] max2_int min2_int max_two min_two max_three min_three max_four min_four   -- for this text's walks alone
set_option linter.unusedVariables false
set_option linter.unusedSimpArgs false

/-! ### path_Right: function 35 -/
def path_Right.f (a0 : ByteArray) : Option (Bool) := (path_Split.f a0).bind fun bt101 => (some bt101.2)
set_option maxHeartbeats 8000000 in
set_option maxRecDepth 100000 in
theorem path_Right.calls (a0 : ByteArray) (r : Bool) (w : World) (h : path_Right.f a0 = some r) :
    Calls Try.prog 35 #[.string a0] w fun e w' => e = .returned (.bool r) ∧ Below w.heap.size w w' := by
  have HB := am_ (Below.refl w.heap.size w)
  have H : ((path_Split.f a0).bind fun bt101 => (some bt101.2)) = some r := h
  clear h
  replace H := Option.bind_eq_some_iff.mp H
  obtain ⟨⟨t101, t102⟩, A20, H⟩ := H
  replace H : (some t102) = some r := H
  have A2 := am_ A20
  clear A20
  obtain rfl := Option.some.inj H
  go_enter Try.func35, Try.ntmps35
  go_wp2_with (first | ((with_reducible refine gate_callee (f := 53) rfl ?_); refine gL (some 7) Try.func53 #[.string a0] rfl rfl ?_; (with_reducible refine (path_Split.calls a0 t101 t102 _ A2.out).mono ?_); rintro e w3 ⟨v103, rfl, ho0, hb⟩; refine ⟨_, rfl, ?_⟩; have n0_ := am_ (Kd.R_lower ho0 (below_size (kZ HB))); have n1_ := am_ (below_step (kZ HB) hb); clear HB; have HO104 := n0_; have HB := n1_; clear n0_ n1_; (try clear hb); (try clear hb2); (try clear hk); (try clear hi); (try clear ho0)))
  go_ret
  exact ⟨e2_, kZ HB⟩

/-! ### part_within: function 64 -/
def part_within.f (a0 : Int) (a1 : Int) (a2 : Int) : Option (Bool) := if a0 ≥ a1 then (some (decide (a0 ≤ a2))) else (some false)
set_option maxHeartbeats 8000000 in
set_option maxRecDepth 100000 in
theorem part_within.calls (a0 : Int) (a1 : Int) (a2 : Int) (r : Bool) (w : World) (h : part_within.f a0 a1 a2 = some r) :
    Calls Try.prog 64 #[.int .i64 a0, .int .i64 a1, .int .i64 a2] w fun e w' => e = .returned (.bool r) ∧ Drawn0 w w' := by
  have H : (if a0 ≥ a1 then (some (decide (a0 ≤ a2))) else (some false)) = some r := h
  clear h
  by_cases c4 : a0 ≥ a1
  · rw [if_pos c4] at H
    have c4b0 : decide (a1 ≤ a0) = true := decide_eq_true c4
    clear c4
    obtain rfl := Option.some.inj H
    go_enter Try.func64, Try.ntmps64
    go_wp2
    go_ret
    exact ⟨e1_, dr_⟩
  · rw [if_neg c4] at H
    have c4b0 : decide (a1 ≤ a0) = false := decide_eq_false c4
    clear c4
    obtain rfl := Option.some.inj H
    go_enter Try.func64, Try.ntmps64
    go_wp2
    go_ret
    exact ⟨e1_, dr_⟩

/-! ### part_fields: function 61 -/
def part_fields.f (a0 : ByteArray) (a1 : ByteArray) (a2 : Int) (a3 : Int) (a4 : Int) : Option (Bool) := (path_Right.f a0).bind fun t105 => (if t105 = true then (if (a1.size : Int) ≤ 256 then ((part_within.f a2 a3 281474976710656).bind fun t106 => (if t106 = true then ((part_within.f a4 0 1099511627776).bind fun t107 => (some t107)) else (some false))) else (some false)) else (some false))
set_option maxHeartbeats 8000000 in
set_option maxRecDepth 100000 in
theorem part_fields.calls (a0 : ByteArray) (a1 : ByteArray) (a2 : Int) (a3 : Int) (a4 : Int) (r : Bool) (w : World) (h : part_fields.f a0 a1 a2 a3 a4 = some r) :
    Calls Try.prog 61 #[.string a0, .string a1, .int .i64 a2, .int .i64 a3, .int .i64 a4] w fun e w' => e = .returned (.bool r) ∧ Below w.heap.size w w' := by
  have HB := am_ (Below.refl w.heap.size w)
  have H : ((path_Right.f a0).bind fun t105 => (if t105 = true then (if (a1.size : Int) ≤ 256 then ((part_within.f a2 a3 281474976710656).bind fun t106 => (if t106 = true then ((part_within.f a4 0 1099511627776).bind fun t107 => (some t107)) else (some false))) else (some false)) else (some false))) = some r := h
  clear h
  replace H := Option.bind_eq_some_iff.mp H
  obtain ⟨t105, A60, H⟩ := H
  replace H : (if t105 = true then (if (a1.size : Int) ≤ 256 then ((part_within.f a2 a3 281474976710656).bind fun t106 => (if t106 = true then ((part_within.f a4 0 1099511627776).bind fun t107 => (some t107)) else (some false))) else (some false)) else (some false)) = some r := H
  have A6 := am_ A60
  clear A60
  by_cases c7 : t105 = true
  rotate_left
  · replace c7 := Bool.eq_false_iff.mpr c7
    subst c7
    have H1 : (some false) = some r := by rw [if_neg (show ¬ (false = true) by decide)] at H; exact H
    clear H
    have H := H1
    clear H1
    obtain rfl := Option.some.inj H
    go_enter Try.func61, Try.ntmps61
    go_wp2_with (first | ((with_reducible refine gate_callee (f := 35) rfl ?_); refine gL (some 12) Try.func35 #[.string a0] rfl rfl ?_; (with_reducible refine (path_Right.calls a0 false _ A6.out).mono ?_); rintro e w15 ⟨rfl, hb⟩; refine ⟨_, rfl, ?_⟩; have n0_ := am_ (below_step (kZ HB) hb); clear HB; have HB := n0_; clear n0_; (try clear hb); (try clear hb2); (try clear hk); (try clear hi)))
    go_ret
    exact ⟨e2_, kZ HB⟩

  subst c7
  have H1 : (if (a1.size : Int) ≤ 256 then ((part_within.f a2 a3 281474976710656).bind fun t106 => (if t106 = true then ((part_within.f a4 0 1099511627776).bind fun t107 => (some t107)) else (some false))) else (some false)) = some r := by rw [if_pos rfl] at H; exact H
  clear H
  have H := H1
  clear H1
  by_cases c8 : (a1.size : Int) ≤ 256
  rotate_left
  · rw [if_neg c8] at H
    have c8b0 : decide ((a1.size : Int) ≤ 256) = false := decide_eq_false c8
    have c8b1 : decide (a1.size ≤ 256) = false := decide_eq_false (by omega)
    clear c8
    obtain rfl := Option.some.inj H
    go_enter Try.func61, Try.ntmps61
    go_wp2_with (first | ((with_reducible refine gate_callee (f := 35) rfl ?_); refine gL (some 12) Try.func35 #[.string a0] rfl rfl ?_; (with_reducible refine (path_Right.calls a0 true _ A6.out).mono ?_); rintro e w14 ⟨rfl, hb⟩; refine ⟨_, rfl, ?_⟩; have n0_ := am_ (below_step (kZ HB) hb); clear HB; have HB := n0_; clear n0_; (try clear hb); (try clear hb2); (try clear hk); (try clear hi)))
    go_ret
    exact ⟨e2_, kZ HB⟩
  rw [if_pos c8] at H
  have c8b0 : decide ((a1.size : Int) ≤ 256) = true := decide_eq_true c8
  have c8b1 : decide (a1.size ≤ 256) = true := decide_eq_true (by omega)
  clear c8
  replace H := Option.bind_eq_some_iff.mp H
  obtain ⟨t106, A90, H⟩ := H
  replace H : (if t106 = true then ((part_within.f a4 0 1099511627776).bind fun t107 => (some t107)) else (some false)) = some r := H
  have A9 := am_ A90
  clear A90
  by_cases c10 : t106 = true
  rotate_left
  · replace c10 := Bool.eq_false_iff.mpr c10
    subst c10
    have H1 : (some false) = some r := by rw [if_neg (show ¬ (false = true) by decide)] at H; exact H
    clear H
    have H := H1
    clear H1
    obtain rfl := Option.some.inj H
    go_enter Try.func61, Try.ntmps61
    go_wp2_with (first | ((with_reducible refine gate_callee (f := 35) rfl ?_); refine gL (some 12) Try.func35 #[.string a0] rfl rfl ?_; (with_reducible refine (path_Right.calls a0 true _ A6.out).mono ?_); rintro e w13 ⟨rfl, hb⟩; refine ⟨_, rfl, ?_⟩; have n0_ := am_ (below_step (kZ HB) hb); clear HB; have HB := n0_; clear n0_; (try clear hb); (try clear hb2); (try clear hk); (try clear hi)) | (go_at_call 64; (with_reducible refine (part_within.calls a2 a3 281474976710656 false _ A9.out).mono ?_); rintro e w' ⟨rfl, ⟨nd, rfl⟩⟩))
    go_ret
    exact ⟨e2_, kZ HB⟩
  subst c10
  have H1 : ((part_within.f a4 0 1099511627776).bind fun t107 => (some t107)) = some r := by rw [if_pos rfl] at H; exact H
  clear H
  have H := H1
  clear H1
  replace H := Option.bind_eq_some_iff.mp H
  obtain ⟨t107, A110, H⟩ := H
  replace H : (some t107) = some r := H
  have A11 := am_ A110
  clear A110
  obtain rfl := Option.some.inj H
  go_enter Try.func61, Try.ntmps61
  go_wp2_with (first | ((with_reducible refine gate_callee (f := 35) rfl ?_); refine gL (some 12) Try.func35 #[.string a0] rfl rfl ?_; (with_reducible refine (path_Right.calls a0 true _ A6.out).mono ?_); rintro e w12 ⟨rfl, hb⟩; refine ⟨_, rfl, ?_⟩; have n0_ := am_ (below_step (kZ HB) hb); clear HB; have HB := n0_; clear n0_; (try clear hb); (try clear hb2); (try clear hk); (try clear hi)) | (go_at_call 64; (with_reducible refine (part_within.calls a2 a3 281474976710656 true _ A9.out).mono ?_); rintro e w' ⟨rfl, ⟨nd, rfl⟩⟩) | (go_at_call 64; (with_reducible refine (part_within.calls a4 0 1099511627776 t107 _ A11.out).mono ?_); rintro e w' ⟨rfl, ⟨nd, rfl⟩⟩))
  go_ret
  exact ⟨e2_, kZ HB⟩
/-- THE ONE PURE STATEMENT of part_fields: yours. -/
def part_fields.Pure : Prop := ∀ (a0 : ByteArray) (a1 : ByteArray) (a2 : Int) (a3 : Int) (a4 : Int), a0.size ≤ 140737488351232 → a1.size ≤ 140737488351232 → (Lit.int .i64 a2).wf = true → (Lit.int .i64 a3).wf = true → (Lit.int .i64 a4).wf = true → part_fields.f a0 a1 a2 a3 a4 = some true
/-! ### bytealg_LastIndexByteString: function 90 -/
def bytealg_LastIndexByteString.l0 : Nat → ByteArray → Int → Int → Option (Int)
  | 0, _, _, _ => none
  | k + 1, x0, x1, x5 => if x5 ≥ 0 then (if 0 ≤ x5 then (if x5 < (x0.size : Int) then (if (bt x0 x5) = x1 then (some x5) else (bytealg_LastIndexByteString.l0 k x0 x1 (wrap64 (x5 - 1)))) else (none)) else (none)) else (some (-1))
def bytealg_LastIndexByteString.f (k : Nat) (a0 : ByteArray) (a1 : Int) : Option (Int) := bytealg_LastIndexByteString.l0 k a0 a1 (wrap64 ((a0.size : Int) - 1))
theorem bytealg_LastIndexByteString.mono_l : ∀ k, (∀ y0 y1 y2, LeO (bytealg_LastIndexByteString.l0 k y0 y1 y2) (bytealg_LastIndexByteString.l0 (k + 1) y0 y1 y2))
  | 0 => fun _ _ _ r h => by simp [bytealg_LastIndexByteString.l0] at h
  | k + 1 => by
    have ih0 := bytealg_LastIndexByteString.mono_l k
    · intro y0 y1 y2
      unfold bytealg_LastIndexByteString.l0
      repeat' first
      | (with_reducible exact ih0 _ _ _)
      | (with_reducible exact LeO.refl _)
      | (with_reducible exact LeO.none _)
      | (with_reducible refine LeO.ite ?_ ?_)
      | (with_reducible refine LeO.bind ?_ (fun _ => ?_))
      | exact ih0 _ _ _
      | exact LeO.none _
      | refine LeO.ite ?_ ?_
      | refine LeO.bind ?_ (fun _ => ?_)
theorem bytealg_LastIndexByteString.mono : ∀ a0 a1 k, LeO (bytealg_LastIndexByteString.f k a0 a1) (bytealg_LastIndexByteString.f (k + 1) a0 a1) := by
  intro a0 a1 k
  have ih0 := bytealg_LastIndexByteString.mono_l k
  unfold bytealg_LastIndexByteString.f
  repeat' first
      | (with_reducible exact ih0 _ _ _)
      | (with_reducible exact LeO.refl _)
      | (with_reducible exact LeO.none _)
      | (with_reducible refine LeO.ite ?_ ?_)
      | (with_reducible refine LeO.bind ?_ (fun _ => ?_))
      | exact ih0 _ _ _
      | exact LeO.none _
      | refine LeO.ite ?_ ?_
      | refine LeO.bind ?_ (fun _ => ?_)
set_option maxHeartbeats 8000000 in
set_option maxRecDepth 100000 in
theorem bytealg_LastIndexByteString.calls (k : Nat) (a0 : ByteArray) (a1 : Int) (r : Int) (w : World) (h : bytealg_LastIndexByteString.f k a0 a1 = some r) :
    Calls Try.prog 90 #[.string a0, .int .u8 a1] w fun e w' => e = .returned (.int .i64 r) ∧ Drawn0 w w' := by
  have H : (bytealg_LastIndexByteString.l0 k a0 a1 (wrap64 ((a0.size : Int) - 1))) = some r := h
  clear h
  have H' := am_ H
  clear H
  go_enter Try.func90, Try.ntmps90
  go_wp2
  go_loopg [5] k (fun kq v5 w' => ∃ (x5_1 : Int), v5 = .int .i64 x5_1 ∧ Aside0 (bytealg_LastIndexByteString.l0 kq a0 a1 x5_1 = some r) ∧ Aside0 (kq ≤ k) ∧ Drawn0 w w')
  case atStart => exact ⟨(wrap64 ((a0.size : Int) - 1)), e1_, H', ⟨Nat.le_refl _⟩, dr_⟩
  case round =>
    clear H'
    try clear p2
    obtain ⟨x5_1, rfl, HA, HK1, ⟨m1, rfl⟩⟩ := hrel
    cases gk with
    | zero => exact absurd HA.out (by simp [bytealg_LastIndexByteString.l0])
    | succ k1 =>
      have H := HA.out
      clear HA
      simp only [bytealg_LastIndexByteString.l0] at H
      by_cases c3 : x5_1 ≥ 0
      rotate_left
      · rw [if_neg c3] at H
        have c3b0 : decide (0 ≤ x5_1) = false := decide_eq_false c3
        clear c3
        obtain rfl := Option.some.inj H
        go_wp2
        go_ret
        exact ⟨e1_, dr_⟩

      rw [if_pos c3] at H
      have c3b0 : decide (0 ≤ x5_1) = true := decide_eq_true c3
      clear c3
      by_cases c4 : 0 ≤ x5_1
      rotate_left
      · rw [if_neg c4] at H
        exact absurd H (by simp)
      rw [if_pos c4] at H
      have c4b0 : decide (0 ≤ x5_1) = true := decide_eq_true c4
      clear c4
      by_cases c5 : x5_1 < (a0.size : Int)
      rotate_left
      · rw [if_neg c5] at H
        exact absurd H (by simp)
      rw [if_pos c5] at H
      have c5b0 : decide (x5_1 < (a0.size : Int)) = true := decide_eq_true c5
      clear c5
      by_cases c7 : (bt a0 x5_1) = a1
      rotate_left
      · rw [if_neg c7] at H
        have c7b0 : ((bt a0 x5_1) == a1) = false := beq_eq_false_iff_ne.mpr c7
        have c7b1 : ((bt a0 x5_1) != a1) = true := bne_iff_ne.mpr c7
        have H' := am_ H
        clear H
        have p6 : 0 ≤ (x5_1 : Int) := od_
        have q6 : x5_1 < (a0.size : Int) := od_
        have hx6 := bt_at a0 x5_1
        replace p6 := eq_true p6
        replace q6 := eq_true q6
        go_wp2
        go_roundg k1
        case measure => have := HK1.out; omega
        case rel => exact ⟨(wrap64 (x5_1 - 1)), e1_, H', ⟨by have := HK1.out; omega⟩, dr_⟩
      rw [if_pos c7] at H
      have c7b0 : ((bt a0 x5_1) == a1) = true := beq_iff_eq.mpr c7
      have c7b1 : ((bt a0 x5_1) != a1) = false := bne_eq_false_iff_eq.mpr c7
      clear c7
      obtain rfl := Option.some.inj H
      have p6 : 0 ≤ (x5_1 : Int) := od_
      have q6 : x5_1 < (a0.size : Int) := od_
      have hx6 := bt_at a0 x5_1
      replace p6 := eq_true p6
      replace q6 := eq_true q6
      go_wp2
      go_ret
      exact ⟨e1_, dr_⟩
/-! ### strings_LastIndexByte: function 80 -/
def strings_LastIndexByte.f (k : Nat) (a0 : ByteArray) (a1 : Int) : Option (Int) := (bytealg_LastIndexByteString.f k a0 a1).bind fun t108 => (some t108)
theorem strings_LastIndexByte.mono : ∀ a0 a1 k, LeO (strings_LastIndexByte.f k a0 a1) (strings_LastIndexByte.f (k + 1) a0 a1) := by
  intro a0 a1 k
  unfold strings_LastIndexByte.f
  repeat' first
      | (with_reducible exact bytealg_LastIndexByteString.mono _ _ _)
      | (with_reducible exact LeO.refl _)
      | (with_reducible exact LeO.none _)
      | (with_reducible refine LeO.ite ?_ ?_)
      | (with_reducible refine LeO.bind ?_ (fun _ => ?_))
      | exact bytealg_LastIndexByteString.mono _ _ _
      | exact LeO.none _
      | refine LeO.ite ?_ ?_
      | refine LeO.bind ?_ (fun _ => ?_)
set_option maxHeartbeats 8000000 in
set_option maxRecDepth 100000 in
theorem strings_LastIndexByte.calls (k : Nat) (a0 : ByteArray) (a1 : Int) (r : Int) (w : World) (h : strings_LastIndexByte.f k a0 a1 = some r) :
    Calls Try.prog 80 #[.string a0, .int .u8 a1] w fun e w' => e = .returned (.int .i64 r) ∧ Drawn0 w w' := by
  have H : ((bytealg_LastIndexByteString.f k a0 a1).bind fun t108 => (some t108)) = some r := h
  clear h
  replace H := Option.bind_eq_some_iff.mp H
  obtain ⟨t108, A30, H⟩ := H
  replace H : (some t108) = some r := H
  have A3 := am_ A30
  clear A30
  obtain rfl := Option.some.inj H
  go_enter Try.func80, Try.ntmps80
  go_wp2_with (first | ((with_reducible refine gate_callee (f := 90) rfl ?_); refine gL (some 7) Try.func90 #[.string a0, .int .u8 a1] rfl rfl ?_; (with_reducible refine (bytealg_LastIndexByteString.calls k a0 a1 t108 _ A3.out).mono ?_); rintro e w' ⟨rfl, ⟨nd, rfl⟩⟩; refine ⟨_, rfl, ?_⟩))
  go_ret
  exact ⟨e1_, dr_⟩

/-! ### path_cut: function 69 -/
def path_cut.f (k : Nat) (a0 : ByteArray) : Option (ByteArray × ByteArray × Bool) := (path_Right.f a0).bind fun t109 => (if t109 = true then (if a0.toList = ([47] : List UInt8) then (some ((⟨#[]⟩ : ByteArray), (⟨#[]⟩ : ByteArray), false)) else ((strings_LastIndexByte.f k a0 47).bind fun t110 => (if 0 ≤ (mx t110 1) then (if (mx t110 1) ≤ (a0.size : Int) then (if 0 ≤ (wrap64 (t110 + 1)) then (if (wrap64 (t110 + 1)) ≤ (a0.size : Int) then (some (a0.extract 0 ((mx t110 1) : Int).toNat, a0.extract ((wrap64 (t110 + 1)) : Int).toNat a0.size, true)) else (none)) else (none)) else (none)) else (none)))) else (some ((⟨#[]⟩ : ByteArray), (⟨#[]⟩ : ByteArray), false)))
theorem path_cut.mono : ∀ a0 k, LeO (path_cut.f k a0) (path_cut.f (k + 1) a0) := by
  intro a0 k
  unfold path_cut.f
  repeat' first
      | (with_reducible exact strings_LastIndexByte.mono _ _ _)
      | (with_reducible exact LeO.refl _)
      | (with_reducible exact LeO.none _)
      | (with_reducible refine LeO.ite ?_ ?_)
      | (with_reducible refine LeO.bind ?_ (fun _ => ?_))
      | exact strings_LastIndexByte.mono _ _ _
      | exact LeO.none _
      | refine LeO.ite ?_ ?_
      | refine LeO.bind ?_ (fun _ => ?_)
set_option maxHeartbeats 8000000 in
set_option maxRecDepth 100000 in
theorem path_cut.calls (k : Nat) (a0 : ByteArray) (r1 : ByteArray) (r2 : ByteArray) (r3 : Bool) (w : World) (h : path_cut.f k a0 = some (r1, r2, r3)) :
    Calls Try.prog 69 #[.string a0] w fun e w' => e = .returned (.tuple #[.string r1, .string r2, .bool r3]) ∧ Below w.heap.size w w' := by
  have HB := am_ (Below.refl w.heap.size w)
  have H : ((path_Right.f a0).bind fun t109 => (if t109 = true then (if a0.toList = ([47] : List UInt8) then (some ((⟨#[]⟩ : ByteArray), (⟨#[]⟩ : ByteArray), false)) else ((strings_LastIndexByte.f k a0 47).bind fun t110 => (if 0 ≤ (mx t110 1) then (if (mx t110 1) ≤ (a0.size : Int) then (if 0 ≤ (wrap64 (t110 + 1)) then (if (wrap64 (t110 + 1)) ≤ (a0.size : Int) then (some (a0.extract 0 ((mx t110 1) : Int).toNat, a0.extract ((wrap64 (t110 + 1)) : Int).toNat a0.size, true)) else (none)) else (none)) else (none)) else (none)))) else (some ((⟨#[]⟩ : ByteArray), (⟨#[]⟩ : ByteArray), false)))) = some (r1, r2, r3) := h
  clear h
  replace H := Option.bind_eq_some_iff.mp H
  obtain ⟨t109, A20, H⟩ := H
  replace H : (if t109 = true then (if a0.toList = ([47] : List UInt8) then (some ((⟨#[]⟩ : ByteArray), (⟨#[]⟩ : ByteArray), false)) else ((strings_LastIndexByte.f k a0 47).bind fun t110 => (if 0 ≤ (mx t110 1) then (if (mx t110 1) ≤ (a0.size : Int) then (if 0 ≤ (wrap64 (t110 + 1)) then (if (wrap64 (t110 + 1)) ≤ (a0.size : Int) then (some (a0.extract 0 ((mx t110 1) : Int).toNat, a0.extract ((wrap64 (t110 + 1)) : Int).toNat a0.size, true)) else (none)) else (none)) else (none)) else (none)))) else (some ((⟨#[]⟩ : ByteArray), (⟨#[]⟩ : ByteArray), false))) = some (r1, r2, r3) := H
  have A2 := am_ A20
  clear A20
  by_cases c3 : t109 = true
  rotate_left
  · replace c3 := Bool.eq_false_iff.mpr c3
    subst c3
    have H1 : (some ((⟨#[]⟩ : ByteArray), (⟨#[]⟩ : ByteArray), false)) = some (r1, r2, r3) := by rw [if_neg (show ¬ (false = true) by decide)] at H; exact H
    clear H
    have H := H1
    clear H1
    simp only [Option.some.injEq, Prod.mk.injEq] at H
    obtain ⟨rfl, rfl, rfl⟩ := H
    go_enter Try.func69, Try.ntmps69
    go_wp2_with (first | (go_at_call 35; (with_reducible refine (path_Right.calls a0 false _ A2.out).mono ?_); rintro e w14 ⟨rfl, hb⟩; have n0_ := am_ (below_step (kZ HB) hb); clear HB; have HB := n0_; clear n0_; (try clear hb); (try clear hb2); (try clear hk); (try clear hi)))
    repeat (go_quiet (fail); try go_wp2_with (fail))
    go_ret3
    exact ⟨e2_, kZ HB⟩

  subst c3
  have H1 : (if a0.toList = ([47] : List UInt8) then (some ((⟨#[]⟩ : ByteArray), (⟨#[]⟩ : ByteArray), false)) else ((strings_LastIndexByte.f k a0 47).bind fun t110 => (if 0 ≤ (mx t110 1) then (if (mx t110 1) ≤ (a0.size : Int) then (if 0 ≤ (wrap64 (t110 + 1)) then (if (wrap64 (t110 + 1)) ≤ (a0.size : Int) then (some (a0.extract 0 ((mx t110 1) : Int).toNat, a0.extract ((wrap64 (t110 + 1)) : Int).toNat a0.size, true)) else (none)) else (none)) else (none)) else (none)))) = some (r1, r2, r3) := by rw [if_pos rfl] at H; exact H
  clear H
  have H := H1
  clear H1
  by_cases c4 : a0.toList = ([47] : List UInt8)
  rotate_left
  · rw [if_neg c4] at H
    have c4b0 : (a0.toList == ([47] : List UInt8)) = false := beq_eq_false_iff_ne.mpr c4
    have c4b1 : (a0.toList != ([47] : List UInt8)) = true := bne_iff_ne.mpr c4
    replace H := Option.bind_eq_some_iff.mp H
    obtain ⟨t110, A60, H⟩ := H
    replace H : (if 0 ≤ (mx t110 1) then (if (mx t110 1) ≤ (a0.size : Int) then (if 0 ≤ (wrap64 (t110 + 1)) then (if (wrap64 (t110 + 1)) ≤ (a0.size : Int) then (some (a0.extract 0 ((mx t110 1) : Int).toNat, a0.extract ((wrap64 (t110 + 1)) : Int).toNat a0.size, true)) else (none)) else (none)) else (none)) else (none)) = some (r1, r2, r3) := H
    have A6 := am_ A60
    clear A60
    obtain ⟨ji7, hji7⟩ : ∃ j_ : Int, (mx t110 1) = j_ := ⟨_, rfl⟩
    replace H : (if 0 ≤ (ji7) then (if (ji7) ≤ (a0.size : Int) then (if 0 ≤ (wrap64 (t110 + 1)) then (if (wrap64 (t110 + 1)) ≤ (a0.size : Int) then (some (a0.extract 0 ((ji7) : Int).toNat, a0.extract ((wrap64 (t110 + 1)) : Int).toNat a0.size, true)) else (none)) else (none)) else (none)) else (none)) = some (r1, r2, r3) := by first | (rw [hji7] at H; exact H) | (simp only [hji7] at H ⊢; exact H)
    (try rw [hji7] at A2)
    (try rw [hji7] at A6)
    (try (have hji7l : 1 ≤ ji7 := by (rw [← hji7]; unfold mx; (repeat' split) <;> omega)))
    (try (have hji7m : 0 ≤ ji7 := by omega))
    have hji7_ : (if t110 < 1 then 1 else t110) = ji7 := hji7
    by_cases c8 : 0 ≤ (ji7)
    rotate_left
    · rw [if_neg c8] at H
      exact absurd H (by simp)
    rw [if_pos c8] at H
    have c8b0 := eq_true c8
    have c8b1 : decide (0 ≤ (ji7)) = true := decide_eq_true c8
    clear c8
    by_cases c9 : (ji7) ≤ (a0.size : Int)
    rotate_left
    · rw [if_neg c9] at H
      exact absurd H (by simp)
    rw [if_pos c9] at H
    have c9b0 := eq_true c9
    have c9b1 : decide ((ji7) ≤ (a0.size : Int)) = true := decide_eq_true c9
    clear c9
    obtain ⟨ji10, hji10⟩ : ∃ j_ : Int, (wrap64 (t110 + 1)) = j_ := ⟨_, rfl⟩
    replace H : (if 0 ≤ (ji10) then (if (ji10) ≤ (a0.size : Int) then (some (a0.extract 0 ((ji7) : Int).toNat, a0.extract ((ji10) : Int).toNat a0.size, true)) else (none)) else (none)) = some (r1, r2, r3) := by first | (rw [hji10] at H; exact H) | (simp only [hji10] at H ⊢; exact H)
    (try rw [hji10] at A2)
    (try rw [hji10] at A6)
    have hji10w : (IntKind.i64.wrap (t110 + 1)) = ji10 := (i64_w _).trans hji10
    by_cases c11 : 0 ≤ (ji10)
    rotate_left
    · rw [if_neg c11] at H
      exact absurd H (by simp)
    rw [if_pos c11] at H
    have c11b0 := eq_true c11
    have c11b1 : decide (0 ≤ (ji10)) = true := decide_eq_true c11
    clear c11
    by_cases c12 : (ji10) ≤ (a0.size : Int)
    rotate_left
    · rw [if_neg c12] at H
      exact absurd H (by simp)
    rw [if_pos c12] at H
    have c12b0 := eq_true c12
    have c12b1 : decide ((ji10) ≤ (a0.size : Int)) = true := decide_eq_true c12
    clear c12
    simp only [Option.some.injEq, Prod.mk.injEq] at H
    obtain ⟨rfl, rfl, rfl⟩ := H
    go_enter Try.func69, Try.ntmps69
    go_wp2_with (first | (go_at_call 35; (with_reducible refine (path_Right.calls a0 true _ A2.out).mono ?_); rintro e w13 ⟨rfl, hb⟩; have n0_ := am_ (below_step (kZ HB) hb); clear HB; have HB := n0_; clear n0_; (try clear hb); (try clear hb2); (try clear hk); (try clear hi)) | (go_at_call 80; (with_reducible refine (strings_LastIndexByte.calls k a0 47 t110 _ A6.out).mono ?_); rintro e w' ⟨rfl, ⟨nd, rfl⟩⟩; (try first | exact ⟨rfl, _, World.drewN_drewN _ _ _⟩ | exact ⟨rfl, _, Eq.trans (World.drewN_drewN _ _ _) (congrArg (World.drewN _) (Nat.add_assoc _ _ _))⟩)))
    repeat (go_quiet (fail); try go_wp2_with (fail))
    go_ret3
    exact ⟨by first | rfl | (simp [errW_none, errW_some] <;> rfl) | (simp only [← hji7, ← hji10]; first | rfl | (simp [errW_none, errW_some] <;> rfl)) | (simp [*, errW_none, errW_some] <;> rfl), kZ HB⟩
  rw [if_pos c4] at H
  have c4b0 : (a0.toList == ([47] : List UInt8)) = true := beq_iff_eq.mpr c4
  have c4b1 : (a0.toList != ([47] : List UInt8)) = false := bne_eq_false_iff_eq.mpr c4
  clear c4
  simp only [Option.some.injEq, Prod.mk.injEq] at H
  obtain ⟨rfl, rfl, rfl⟩ := H
  go_enter Try.func69, Try.ntmps69
  go_wp2_with (first | (go_at_call 35; (with_reducible refine (path_Right.calls a0 true _ A2.out).mono ?_); rintro e w5 ⟨rfl, hb⟩; have n0_ := am_ (below_step (kZ HB) hb); clear HB; have HB := n0_; clear n0_; (try clear hb); (try clear hb2); (try clear hk); (try clear hi)))
  repeat (go_quiet (fail); try go_wp2_with (fail))
  go_ret3
  exact ⟨e2_, kZ HB⟩
/-! ### path_Parent: function 43 -/
def path_Parent.f (k : Nat) (a0 : ByteArray) : Option (ByteArray × Bool) := (path_cut.f k a0).bind fun bt111 => (some (bt111.1, bt111.2.2))
theorem path_Parent.mono : ∀ a0 k, LeO (path_Parent.f k a0) (path_Parent.f (k + 1) a0) := by
  intro a0 k
  unfold path_Parent.f
  repeat' first
      | (with_reducible exact path_cut.mono _ _)
      | (with_reducible exact LeO.refl _)
      | (with_reducible exact LeO.none _)
      | (with_reducible refine LeO.ite ?_ ?_)
      | (with_reducible refine LeO.bind ?_ (fun _ => ?_))
      | exact path_cut.mono _ _
      | exact LeO.none _
      | refine LeO.ite ?_ ?_
      | refine LeO.bind ?_ (fun _ => ?_)
set_option maxHeartbeats 8000000 in
set_option maxRecDepth 100000 in
theorem path_Parent.calls (k : Nat) (a0 : ByteArray) (r1 : ByteArray) (r2 : Bool) (w : World) (h : path_Parent.f k a0 = some (r1, r2)) :
    Calls Try.prog 43 #[.string a0] w fun e w' => e = .returned (.tuple #[.string r1, .bool r2]) ∧ Below w.heap.size w w' := by
  have HB := am_ (Below.refl w.heap.size w)
  have H : ((path_cut.f k a0).bind fun bt111 => (some (bt111.1, bt111.2.2))) = some (r1, r2) := h
  clear h
  replace H := Option.bind_eq_some_iff.mp H
  obtain ⟨⟨t111, t112, t113⟩, A20, H⟩ := H
  replace H : (some (t111, t113)) = some (r1, r2) := H
  have A2 := am_ A20
  clear A20
  simp only [Option.some.injEq, Prod.mk.injEq] at H
  obtain ⟨rfl, rfl⟩ := H
  go_enter Try.func43, Try.ntmps43
  go_wp2_with (first | ((with_reducible refine gate_callee (f := 69) rfl ?_); refine gL (some 9) Try.func69 #[.string a0] rfl rfl ?_; (with_reducible refine (path_cut.calls k a0 t111 t112 t113 _ A2.out).mono ?_); rintro e w3 ⟨rfl, hb⟩; refine ⟨_, rfl, ?_⟩; have n0_ := am_ (below_step (kZ HB) hb); clear HB; have HB := n0_; clear n0_; (try clear hb); (try clear hb2); (try clear hk); (try clear hi)))
  go_ret2
  exact ⟨e2_, kZ HB⟩

end Go.Proofs.Ytinjajpnbbknnaa.Q
