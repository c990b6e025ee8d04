/- The walk of the law CheckNewer: every answer of check.Newer is known ahead of it. -/
import Derived.Test.YtpmkegkgaalfhaaS04
import Derived.Lib.Hide
namespace Go.Proofs.Ytpmkegkgaalfhaa.WNewer
open Go Go.RowKit Go.Proofs.Ytpmkegkgaalfhaa.Q Go.Proofs.Ytpmkegkgaalfhaa.New Go.Proofs.Ytpmkegkgaalfhaa.S04 Go.Proofs.YtpmkegkgaalfhaaW.PrintWords Go.Proofs.YtpmkegkgaalfhaaW.PrintLast

theorem newer_is (a b c d : Int) (ha : 0 ≤ a ∧ a ≤ 4294967295) (hb : 0 ≤ b ∧ b ≤ 4294967295) (hc : 0 ≤ c ∧ c ≤ 4294967295) (hd : 0 ≤ d ∧ d ≤ 4294967295) (r : Bool) (h : (decide (c < a) || (decide (a = c) && decide (d < b))) = r) (w : World) :
    Calls Try.prog 12 #[.int .i64 a, .int .i64 b, .int .i64 c, .int .i64 d] w fun e w' => e = .returned (.bool r) ∧ Drawn0 w w' := by
  refine check_Newer.calls a b c d r w ?_
  rw [newer_f a b c d (by omega) (by omega) (by omega) (by omega)]
  have p0 : pairB a b = true := by simp [pairB]; omega
  have p1 : pairB c d = true := by simp [pairB]; omega
  rw [← h]
  simp [newB, p0, p1]
theorem below_n {w w1 : World} (h : Below w.heap.size w w1) (n : Nat) : Below w.heap.size w (w1.drewN n) := by
  have := Drawn0.below (Drawn0.step (Drawn0.refl w1) n)
  exact h.trans (this.mono h.size)
theorem odd_is (w : World) : Calls Try.prog 12 #[.int .i64 (-1), .int .i64 0, .int .i64 (-2), .int .i64 0] w fun e w' => e = .returned (.bool false) ∧ Drawn0 w w' :=
  check_Newer.calls (-1) 0 (-2) 0 false w (by rw [newer_f _ _ _ _ (by omega) (by omega) (by omega) (by omega)]; rfl)
theorem walk (a0 a1 a2 a3 a4 a5 : Int) (w : World) (w0 : (Lit.int .u32 a0).wf = true) (w1 : (Lit.int .u32 a1).wf = true) (w2 : (Lit.int .u32 a2).wf = true) (w3 : (Lit.int .u32 a3).wf = true) (w4 : (Lit.int .u32 a4).wf = true) (w5 : (Lit.int .u32 a5).wf = true) :
    Calls Try.prog 6 #[.int .u32 a0, .int .u32 a1, .int .u32 a2, .int .u32 a3, .int .u32 a4, .int .u32 a5] w fun e w' => e = .returned (.bool true) ∧ Below w.heap.size w w' := by
  have b0 := wf_u32 w0
  have b1 := wf_u32 w1
  have b2 := wf_u32 w2
  have b3 := wf_u32 w3
  have b4 := wf_u32 w4
  have b5 := wf_u32 w5
  have q0 := newer_is a0 a1 a2 a3 b0 b1 b2 b3
  have q1 := newer_is a2 a3 a0 a1 b2 b3 b0 b1
  have q2 := newer_is a2 a3 a4 a5 b2 b3 b4 b5
  have q3 := newer_is a0 a1 a4 a5 b0 b1 b4 b5
  have q4 := newer_is a0 a1 a0 a1 b0 b1 b0 b1
  obtain ⟨b00, b01⟩ := b0
  obtain ⟨b10, b11⟩ := b1
  obtain ⟨b20, b21⟩ := b2
  obtain ⟨b30, b31⟩ := b3
  obtain ⟨b40, b41⟩ := b4
  obtain ⟨b50, b51⟩ := b5
  clear w0 w1 w2 w3 w4 w5
  rcases Int.lt_trichotomy a0 a2 with h1 | h1 | h1
  · have g1 : (a0 == a2) = false := by rw [beq_eq_false_iff_ne]; omega
    have k0 := q0 false (by first | (simp; done) | (simp; omega))
    have k1 := q1 true (by simp; omega)
    have k2 := q2 _ rfl
    have k3 := q3 _ rfl
    have k4 := q4 false (by simp)
    clear q0 q1 q2 q3 q4
    go_enter Try.func6, Try.ntmps6
    go_wp2_with fail
    refine (cantonlaw04_head.calls 10 true _ (head_f 10 (by omega))).mono ?_
    rintro e W1 ⟨rfl, hb⟩
    have HB := Lib.hid hb
    clear hb
    go_wp2_with fail
    refine (k0 _).mono ?_
    rintro e w' ⟨rfl, ⟨n1, rfl⟩⟩
    go_wp2_with fail
    refine (k1 _).mono ?_
    rintro e w' ⟨rfl, ⟨n2, rfl⟩⟩
    go_wp2_with fail
    refine (k2 _).mono ?_
    rintro e w' ⟨rfl, ⟨n3, rfl⟩⟩
    go_wp2_with fail
    refine (k3 _).mono ?_
    rintro e w' ⟨rfl, ⟨n4, rfl⟩⟩
    go_wp2_with fail
    refine (k4 _).mono ?_
    rintro e w' ⟨rfl, ⟨n5, rfl⟩⟩
    go_wp2_with fail
    refine (odd_is _).mono ?_
    rintro e w' ⟨rfl, ⟨n6, rfl⟩⟩
    go_wp2_with fail
    go_ret
    exact ⟨rfl, by repeat (first | exact HB.out | apply below_n)⟩
  · subst h1
    rcases Int.lt_trichotomy a1 a3 with h2 | h2 | h2
    · have g1 : (a1 == a3) = false := by rw [beq_eq_false_iff_ne]; omega
      have k0 := q0 false (by first | (simp; done) | (simp; omega))
      have k1 := q1 true (by simp; omega)
      have k2 := q2 _ rfl
      have k3 := q3 _ rfl
      have k4 := q4 false (by simp)
      clear q0 q1 q2 q3 q4
      go_enter Try.func6, Try.ntmps6
      go_wp2_with fail
      refine (cantonlaw04_head.calls 10 true _ (head_f 10 (by omega))).mono ?_
      rintro e W1 ⟨rfl, hb⟩
      have HB := Lib.hid hb
      clear hb
      go_wp2_with fail
      refine (k0 _).mono ?_
      rintro e w' ⟨rfl, ⟨n1, rfl⟩⟩
      go_wp2_with fail
      refine (k1 _).mono ?_
      rintro e w' ⟨rfl, ⟨n2, rfl⟩⟩
      go_wp2_with fail
      refine (k2 _).mono ?_
      rintro e w' ⟨rfl, ⟨n3, rfl⟩⟩
      go_wp2_with fail
      refine (k3 _).mono ?_
      rintro e w' ⟨rfl, ⟨n4, rfl⟩⟩
      go_wp2_with fail
      refine (k4 _).mono ?_
      rintro e w' ⟨rfl, ⟨n5, rfl⟩⟩
      go_wp2_with fail
      refine (odd_is _).mono ?_
      rintro e w' ⟨rfl, ⟨n6, rfl⟩⟩
      go_wp2_with fail
      go_ret
      exact ⟨rfl, by repeat (first | exact HB.out | apply below_n)⟩
    · subst h2
      have k0 := q0 false (by first | (simp; done) | (simp; omega))
      have k1 := q1 false (by first | (simp; done) | (simp; omega))
      have k2 := q2 _ rfl
      have k3 := q3 _ rfl
      have k4 := q4 false (by simp)
      clear q0 q1 q2 q3 q4
      go_enter Try.func6, Try.ntmps6
      go_wp2_with fail
      refine (cantonlaw04_head.calls 10 true _ (head_f 10 (by omega))).mono ?_
      rintro e W1 ⟨rfl, hb⟩
      have HB := Lib.hid hb
      clear hb
      go_wp2_with fail
      refine (k0 _).mono ?_
      rintro e w' ⟨rfl, ⟨n1, rfl⟩⟩
      go_wp2_with fail
      refine (k1 _).mono ?_
      rintro e w' ⟨rfl, ⟨n2, rfl⟩⟩
      go_wp2_with fail
      refine (k2 _).mono ?_
      rintro e w' ⟨rfl, ⟨n3, rfl⟩⟩
      go_wp2_with fail
      refine (k3 _).mono ?_
      rintro e w' ⟨rfl, ⟨n4, rfl⟩⟩
      go_wp2_with fail
      refine (k4 _).mono ?_
      rintro e w' ⟨rfl, ⟨n5, rfl⟩⟩
      go_wp2_with fail
      refine (odd_is _).mono ?_
      rintro e w' ⟨rfl, ⟨n6, rfl⟩⟩
      go_wp2_with fail
      go_ret
      exact ⟨rfl, by repeat (first | exact HB.out | apply below_n)⟩
    · have g1 : (a1 == a3) = false := by rw [beq_eq_false_iff_ne]; omega
      by_cases h3 : a4 < a0 ∨ a0 = a4 ∧ a5 < a3
      · have k0 := q0 true (by simp; omega)
        have k1 := q1 false (by first | (simp; done) | (simp; omega))
        have k2 := q2 true (by first | (simp; done) | (simp; omega))
        have k3 := q3 true (by simp; omega)
        have k4 := q4 false (by simp)
        clear q0 q1 q2 q3 q4
        clear h3
        go_enter Try.func6, Try.ntmps6
        go_wp2_with fail
        refine (cantonlaw04_head.calls 10 true _ (head_f 10 (by omega))).mono ?_
        rintro e W1 ⟨rfl, hb⟩
        have HB := Lib.hid hb
        clear hb
        go_wp2_with fail
        refine (k0 _).mono ?_
        rintro e w' ⟨rfl, ⟨n1, rfl⟩⟩
        go_wp2_with fail
        refine (k1 _).mono ?_
        rintro e w' ⟨rfl, ⟨n2, rfl⟩⟩
        go_wp2_with fail
        refine (k2 _).mono ?_
        rintro e w' ⟨rfl, ⟨n3, rfl⟩⟩
        go_wp2_with fail
        refine (k3 _).mono ?_
        rintro e w' ⟨rfl, ⟨n4, rfl⟩⟩
        go_wp2_with fail
        refine (k4 _).mono ?_
        rintro e w' ⟨rfl, ⟨n5, rfl⟩⟩
        go_wp2_with fail
        refine (odd_is _).mono ?_
        rintro e w' ⟨rfl, ⟨n6, rfl⟩⟩
        go_wp2_with fail
        go_ret
        exact ⟨rfl, by repeat (first | exact HB.out | apply below_n)⟩
      · have k0 := q0 true (by simp; omega)
        have k1 := q1 false (by first | (simp; done) | (simp; omega))
        have k2 := q2 false (by simp; omega)
        have k3 := q3 _ rfl
        have k4 := q4 false (by simp)
        clear q0 q1 q2 q3 q4
        clear h3
        go_enter Try.func6, Try.ntmps6
        go_wp2_with fail
        refine (cantonlaw04_head.calls 10 true _ (head_f 10 (by omega))).mono ?_
        rintro e W1 ⟨rfl, hb⟩
        have HB := Lib.hid hb
        clear hb
        go_wp2_with fail
        refine (k0 _).mono ?_
        rintro e w' ⟨rfl, ⟨n1, rfl⟩⟩
        go_wp2_with fail
        refine (k1 _).mono ?_
        rintro e w' ⟨rfl, ⟨n2, rfl⟩⟩
        go_wp2_with fail
        refine (k2 _).mono ?_
        rintro e w' ⟨rfl, ⟨n3, rfl⟩⟩
        go_wp2_with fail
        refine (k3 _).mono ?_
        rintro e w' ⟨rfl, ⟨n4, rfl⟩⟩
        go_wp2_with fail
        refine (k4 _).mono ?_
        rintro e w' ⟨rfl, ⟨n5, rfl⟩⟩
        go_wp2_with fail
        refine (odd_is _).mono ?_
        rintro e w' ⟨rfl, ⟨n6, rfl⟩⟩
        go_wp2_with fail
        go_ret
        exact ⟨rfl, by repeat (first | exact HB.out | apply below_n)⟩
  · have g1 : (a0 == a2) = false := by rw [beq_eq_false_iff_ne]; omega
    by_cases h3 : a4 < a2 ∨ a2 = a4 ∧ a5 < a3
    · have k0 := q0 true (by simp; omega)
      have k1 := q1 false (by first | (simp; done) | (simp; omega))
      have k2 := q2 true (by first | (simp; done) | (simp; omega))
      have k3 := q3 true (by simp; omega)
      have k4 := q4 false (by simp)
      clear q0 q1 q2 q3 q4
      clear h3
      go_enter Try.func6, Try.ntmps6
      go_wp2_with fail
      refine (cantonlaw04_head.calls 10 true _ (head_f 10 (by omega))).mono ?_
      rintro e W1 ⟨rfl, hb⟩
      have HB := Lib.hid hb
      clear hb
      go_wp2_with fail
      refine (k0 _).mono ?_
      rintro e w' ⟨rfl, ⟨n1, rfl⟩⟩
      go_wp2_with fail
      refine (k1 _).mono ?_
      rintro e w' ⟨rfl, ⟨n2, rfl⟩⟩
      go_wp2_with fail
      refine (k2 _).mono ?_
      rintro e w' ⟨rfl, ⟨n3, rfl⟩⟩
      go_wp2_with fail
      refine (k3 _).mono ?_
      rintro e w' ⟨rfl, ⟨n4, rfl⟩⟩
      go_wp2_with fail
      refine (k4 _).mono ?_
      rintro e w' ⟨rfl, ⟨n5, rfl⟩⟩
      go_wp2_with fail
      refine (odd_is _).mono ?_
      rintro e w' ⟨rfl, ⟨n6, rfl⟩⟩
      go_wp2_with fail
      go_ret
      exact ⟨rfl, by repeat (first | exact HB.out | apply below_n)⟩
    · have k0 := q0 true (by simp; omega)
      have k1 := q1 false (by first | (simp; done) | (simp; omega))
      have k2 := q2 false (by simp; omega)
      have k3 := q3 _ rfl
      have k4 := q4 false (by simp)
      clear q0 q1 q2 q3 q4
      clear h3
      go_enter Try.func6, Try.ntmps6
      go_wp2_with fail
      refine (cantonlaw04_head.calls 10 true _ (head_f 10 (by omega))).mono ?_
      rintro e W1 ⟨rfl, hb⟩
      have HB := Lib.hid hb
      clear hb
      go_wp2_with fail
      refine (k0 _).mono ?_
      rintro e w' ⟨rfl, ⟨n1, rfl⟩⟩
      go_wp2_with fail
      refine (k1 _).mono ?_
      rintro e w' ⟨rfl, ⟨n2, rfl⟩⟩
      go_wp2_with fail
      refine (k2 _).mono ?_
      rintro e w' ⟨rfl, ⟨n3, rfl⟩⟩
      go_wp2_with fail
      refine (k3 _).mono ?_
      rintro e w' ⟨rfl, ⟨n4, rfl⟩⟩
      go_wp2_with fail
      refine (k4 _).mono ?_
      rintro e w' ⟨rfl, ⟨n5, rfl⟩⟩
      go_wp2_with fail
      refine (odd_is _).mono ?_
      rintro e w' ⟨rfl, ⟨n6, rfl⟩⟩
      go_wp2_with fail
      go_ret
      exact ⟨rfl, by repeat (first | exact HB.out | apply below_n)⟩
end Go.Proofs.Ytpmkegkgaalfhaa.WNewer
-- WALK CheckNewer WNewer.walk
