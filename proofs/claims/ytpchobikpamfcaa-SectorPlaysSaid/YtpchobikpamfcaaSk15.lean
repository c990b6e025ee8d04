/- The walk of SectorNew. -/
import Derived.Test.YtpchobikpamfcaaSk14
namespace Go.Proofs.Ytpchobikpamfcaa.Sk
open Go Go.RowKit Go.Maps Go.Proofs Go.Proofs.YtpchobikpamfcaaW.PrintWords Go.Proofs.YtpchobikpamfcaaW.PrintLast Go.Proofs.YtpchobikpamfcaaW.PrintMore
set_option linter.unusedVariables false
set_option linter.unusedSimpArgs false

theorem looseI_rep (n : Nat) : looseI (List.replicate n false) = [] := by
  unfold looseI loose
  rw [List.map_eq_nil_iff, List.filter_eq_nil_iff]
  intro i _
  rw [repl_get]
  decide
theorem ok_new (k : Nat) (h1 : 1 ≤ k) (h2 : k ≤ 4096) : Ok (made (List.replicate (k * 16) 0)) := ok_made (by rw [List.length_replicate]; exact okLen_new k h1 h2) (fun y hy => by have := List.eq_of_mem_replicate hy; omega)
set_option maxHeartbeats 8000000 in
set_option maxRecDepth 100000 in
theorem newLaw_calls (n : Int) (W : World) : Calls Try.prog 5 #[.int .i64 n] W fun e w' => e = .returned (.bool true) ∧ Below W.heap.size W w' := by
  have HH := Lib.hid (head_calls W)
  by_cases big : n > 5000 ∧ n < 1099511627776
  · obtain ⟨c1, c2⟩ := big
    have c3 : 0 ≤ n := by omega
    by_cases c4 : n % 5000 < 1 ∨ 4096 < n % 5000
    · have HN := Lib.hid (fun W => new_nil (n % 5000) c4 W)
      obtain ⟨r, hr⟩ : ∃ r, n % 5000 = r := ⟨_, rfl⟩
      rw [hr] at HN c4
      have HR := Lib.hid hr
      clear hr
      rcases (show r < 1 ∨ (¬ r < 1 ∧ r > 4096) by omega) with c5 | ⟨c5, c6⟩
      · clear c4
        go_enter Try.func5, Try.ntmps5
        go_wp2_with fail
        refine HH.out.mono ?_
        rintro e w0 ⟨rfl, hb0⟩
        have HB0 := Lib.hid hb0
        clear hb0
        go_wp2_with (go_at_call 17; rw [HR.out]; refine (HN.out _).mono ?_; rintro e w1 ⟨rfl, rfl⟩)
        go_ret
        exact ⟨by first | rfl | simp, HB0.out⟩
      · clear c4
        go_enter Try.func5, Try.ntmps5
        go_wp2_with fail
        refine HH.out.mono ?_
        rintro e w0 ⟨rfl, hb0⟩
        have HB0 := Lib.hid hb0
        clear hb0
        go_wp2_with (go_at_call 17; rw [HR.out]; refine (HN.out _).mono ?_; rintro e w1 ⟨rfl, rfl⟩)
        go_ret
        exact ⟨by first | rfl | simp, HB0.out⟩
    · obtain ⟨k, hk⟩ : ∃ k : Nat, n % 5000 = (k : Int) := ⟨(n % 5000).toNat, by omega⟩
      have hk1 : 1 ≤ k := by omega
      have hk2 : k ≤ 4096 := by omega
      have HN := Lib.hid (fun W => new_calls k hk1 hk2 W)
      have HOK := Lib.hid (ok_new k hk1 hk2)
      have HK := Lib.hid hk
      clear hk c4
      go_enter Try.func5, Try.ntmps5
      go_wp2_with fail
      refine HH.out.mono ?_
      rintro e w0 ⟨rfl, hb0⟩
      have HB0 := Lib.hid hb0
      clear hb0
      go_wp2_with fail
      rw [HK.out]
      refine (HN.out _).mono ?_
      rintro e w1 ⟨p, g, cap, m, rfl, hs, hp, hg, hm, hb⟩
      have HS1 := Lib.hid hs
      have HB1 := Lib.hid (below_step HB0.out hb)
      clear hs hp hg hm hb HN
      go_wp2_with fail
      refine (bytes_calls HS1.out HOK.out).mono ?_
      rintro e w2 ⟨g', cap', rfl, k1, k2, k3⟩
      have HS2 := Lib.hid (HS1.out.below k3)
      have HB2 := Lib.hid (below_step HB1.out k3)
      have HROW := Lib.hid k2
      change Hid (Row w2 g' cap' (List.replicate (k * 16) 0)) at HROW
      have hN : (made (List.replicate (k * 16) 0)).b.length = k * 16 := List.length_replicate
      rw [hN]
      obtain ⟨N, hNN⟩ : ∃ N, k * 16 = N := ⟨_, rfl⟩
      rw [hNN]
      have HNN := Lib.hid hNN
      have hN1 : N ≤ 65536 := by omega
      have z : ((N : Int) == (k : Int) * 16) = true := beq_iff_eq.2 (by omega)
      clear k1 k2 k3 hN hNN HS1 HB1
      go_wp2_with fail
      go_loopg [6] N (fun gg s6 wr => ∃ i : Nat, i ≤ N ∧ N - i ≤ gg ∧ s6 = .int .i64 i ∧ wr = w2)
      case atStart => exact ⟨0, Nat.zero_le _, by omega, rfl, rfl⟩
      case round =>
        obtain ⟨i, hi, hgg, rfl, rfl⟩ := hrel
        by_cases hlt : i < N
        · have hltz : decide ((i : Int) < (N : Int)) = true := decide_eq_true (by omega)
          have hx := HROW.out.cell i (by rw [List.length_replicate, HNN.out]; exact hlt)
          rw [List.getElem_replicate] at hx
          go_wp2_with fail
          go_roundg (N - (i + 1))
          case measure => omega
          case rel => exact ⟨i + 1, by omega, by omega, by go_num, rfl⟩
        · have hltz : decide ((i : Int) < (N : Int)) = false := decide_eq_false (by omega)
          go_wp2_with (first
            | (go_at_call 14; refine (loose_calls HS2.out HOK.out).mono ?_; rintro e w3 ⟨v, rfl, hv, hb⟩; rw [show looseI (made (List.replicate (k * 16) 0)).wet = [] from looseI_rep _] at hv; obtain ⟨Av, cv, rfl, _, _⟩ := Kd.R_reads hv; have HS3 := Lib.hid (HS2.out.below hb); have HB3 := Lib.hid (below_step HB2.out hb); clear hv hb)
            | (go_at_call 18; refine (acts_calls HS3.out).mono ?_; rintro e w4 ⟨he, rfl⟩; change e = .returned (.int .i64 0) at he; subst he)
            | (go_at_call 19; refine (down_calls HS3.out).mono ?_; rintro e w4 ⟨he, rfl⟩; change e = .returned (.bool false) at he; subst he))
          go_ret
          exact ⟨rfl, HB3.out⟩
  · by_cases c4 : n < 1 ∨ 4096 < n
    · have HN := Lib.hid (fun W => new_nil n c4 W)
      rcases (show n < 1 ∨ (n > 5000 ∧ ¬ n < 1099511627776) ∨ (¬ n < 1 ∧ ¬ n > 5000 ∧ n > 4096) by omega) with c5 | ⟨c5, c6⟩ | ⟨c5, c6, c7⟩
      · have c8 : ¬ n > 5000 := by omega
        clear c4 big
        go_enter Try.func5, Try.ntmps5
        go_wp2_with fail
        refine HH.out.mono ?_
        rintro e w0 ⟨rfl, hb0⟩
        have HB0 := Lib.hid hb0
        clear hb0
        go_wp2_with (go_at_call 17; refine (HN.out _).mono ?_; rintro e w1 ⟨rfl, rfl⟩)
        go_ret
        exact ⟨by first | rfl | simp, HB0.out⟩
      · have c8 : ¬ n < 1 := by omega
        have c9 : n > 4096 := by omega
        clear c4 big
        go_enter Try.func5, Try.ntmps5
        go_wp2_with fail
        refine HH.out.mono ?_
        rintro e w0 ⟨rfl, hb0⟩
        have HB0 := Lib.hid hb0
        clear hb0
        go_wp2_with (go_at_call 17; refine (HN.out _).mono ?_; rintro e w1 ⟨rfl, rfl⟩)
        go_ret
        exact ⟨by first | rfl | simp, HB0.out⟩
      · clear c4 big
        go_enter Try.func5, Try.ntmps5
        go_wp2_with fail
        refine HH.out.mono ?_
        rintro e w0 ⟨rfl, hb0⟩
        have HB0 := Lib.hid hb0
        clear hb0
        go_wp2_with (go_at_call 17; refine (HN.out _).mono ?_; rintro e w1 ⟨rfl, rfl⟩)
        go_ret
        exact ⟨by first | rfl | simp, HB0.out⟩
    · obtain ⟨k, rfl⟩ : ∃ k : Nat, n = (k : Int) := ⟨n.toNat, by omega⟩
      have hk1 : 1 ≤ k := by omega
      have hk2 : k ≤ 4096 := by omega
      have HN := Lib.hid (fun W => new_calls k hk1 hk2 W)
      have HOK := Lib.hid (ok_new k hk1 hk2)
      clear c4 big
      go_enter Try.func5, Try.ntmps5
      go_wp2_with fail
      refine HH.out.mono ?_
      rintro e w0 ⟨rfl, hb0⟩
      have HB0 := Lib.hid hb0
      clear hb0
      go_wp2_with fail
      refine (HN.out _).mono ?_
      rintro e w1 ⟨p, g, cap, m, rfl, hs, hp, hg, hm, hb⟩
      have HS1 := Lib.hid hs
      have HB1 := Lib.hid (below_step HB0.out hb)
      clear hs hp hg hm hb HN
      go_wp2_with fail
      refine (bytes_calls HS1.out HOK.out).mono ?_
      rintro e w2 ⟨g', cap', rfl, k1, k2, k3⟩
      have HS2 := Lib.hid (HS1.out.below k3)
      have HB2 := Lib.hid (below_step HB1.out k3)
      have HROW := Lib.hid k2
      change Hid (Row w2 g' cap' (List.replicate (k * 16) 0)) at HROW
      have hN : (made (List.replicate (k * 16) 0)).b.length = k * 16 := List.length_replicate
      rw [hN]
      obtain ⟨N, hNN⟩ : ∃ N, k * 16 = N := ⟨_, rfl⟩
      rw [hNN]
      have HNN := Lib.hid hNN
      have hN1 : N ≤ 65536 := by omega
      have z : ((N : Int) == (k : Int) * 16) = true := beq_iff_eq.2 (by omega)
      clear k1 k2 k3 hN hNN HS1 HB1
      go_wp2_with fail
      go_loopg [6] N (fun gg s6 wr => ∃ i : Nat, i ≤ N ∧ N - i ≤ gg ∧ s6 = .int .i64 i ∧ wr = w2)
      case atStart => exact ⟨0, Nat.zero_le _, by omega, rfl, rfl⟩
      case round =>
        obtain ⟨i, hi, hgg, rfl, rfl⟩ := hrel
        by_cases hlt : i < N
        · have hltz : decide ((i : Int) < (N : Int)) = true := decide_eq_true (by omega)
          have hx := HROW.out.cell i (by rw [List.length_replicate, HNN.out]; exact hlt)
          rw [List.getElem_replicate] at hx
          go_wp2_with fail
          go_roundg (N - (i + 1))
          case measure => omega
          case rel => exact ⟨i + 1, by omega, by omega, by go_num, rfl⟩
        · have hltz : decide ((i : Int) < (N : Int)) = false := decide_eq_false (by omega)
          go_wp2_with (first
            | (go_at_call 14; refine (loose_calls HS2.out HOK.out).mono ?_; rintro e w3 ⟨v, rfl, hv, hb⟩; rw [show looseI (made (List.replicate (k * 16) 0)).wet = [] from looseI_rep _] at hv; obtain ⟨Av, cv, rfl, _, _⟩ := Kd.R_reads hv; have HS3 := Lib.hid (HS2.out.below hb); have HB3 := Lib.hid (below_step HB2.out hb); clear hv hb)
            | (go_at_call 18; refine (acts_calls HS3.out).mono ?_; rintro e w4 ⟨he, rfl⟩; change e = .returned (.int .i64 0) at he; subst he)
            | (go_at_call 19; refine (down_calls HS3.out).mono ?_; rintro e w4 ⟨he, rfl⟩; change e = .returned (.bool false) at he; subst he))
          go_ret
          exact ⟨rfl, HB3.out⟩
end Go.Proofs.Ytpchobikpamfcaa.Sk
