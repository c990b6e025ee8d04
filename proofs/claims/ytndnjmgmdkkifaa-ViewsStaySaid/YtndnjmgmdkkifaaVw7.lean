/- Views in memory: the walks of right$1 and right (printed by gen_right.py). -/
import Derived.Test.YtndnjmgmdkkifaaVw6
namespace Go.Proofs.Ytndnjmgmdkkifaa.Vw1
open Go Go.RowKit Go.Maps Go.Proofs Go.Proofs.Ytndnjmgmdkkifaa.New Go.Proofs.Ytndnjmgmdkkifaa.Vw Go.Proofs.Ytndnjmgmdkkifaa.Vw0 Go.Proofs.YtndnjmgmdkkifaaW.PrintWords Go.Proofs.YtndnjmgmdkkifaaW.PrintLast Go.Proofs.YtndnjmgmdkkifaaW.PrintMore
set_option linter.unusedVariables false
set_option linter.unusedSimpArgs false

def in96 (n : Int) : Bool := decide (0 ≤ n) && decide (n ≤ 96)
set_option maxRecDepth 100000 in
theorem right1_calls (n : Int) (W : World) : Calls Try.prog 53 #[.int .i64 n] W fun e w' => e = .returned (.bool (in96 n)) ∧ w' = W := by
  unfold in96
  by_cases c1 : n ≥ 0
  · have d1 : decide (0 ≤ n) = true := decide_eq_true c1
    go_enter Try.func53, Try.ntmps53
    go_wp2_with fail
    go_ret
    exact ⟨by first | rfl | (rw [d1]; rfl), rfl⟩
  · have d1 : decide (0 ≤ n) = false := decide_eq_false c1
    go_enter Try.func53, Try.ntmps53
    go_wp2_with fail
    go_ret
    exact ⟨by first | rfl | (rw [d1]; rfl), rfl⟩
/-- a letter as a value -/
def ltrV (l : Ltr) (A : Option Addr) (c : Nat) : Value := .agg #[.int .i64 l.kind, .int .i64 l.view, .int .i64 l.normal, .int .i64 l.len, .int .i64 l.stays, .slice A l.log.length c, .int .i64 l.num, .string l.text]
theorem rightB_is (s : V) (l : Ltr) : s.rightB l = (decide (0 ≤ l.normal) && (decide (l.normal ≤ l.view) && (decide (l.view ≤ 281474976710656) && (decide (s.view ≤ l.view) && (decide (1 ≤ l.kind) && (decide (l.kind ≤ 3) && (rightL l.log && (in96 l.len && in96 l.stays)))))))) := by
  unfold V.rightB in96
  simp only [Bool.and_assoc]
set_option maxHeartbeats 4000000 in
set_option maxRecDepth 100000 in
theorem right_calls {W : World} {p am cm : Nat} {s : V} (h : VRep W p am cm s) (l : Ltr) (A : Option Addr) (c : Nat) (hc : Kd.C Kd.string W A l.log.length l.log) (hl : l.log.length ≤ 1000000) (hs : ∀ z ∈ l.log, z.size ≤ 140737488355328) :
    Calls Try.prog 45 #[.pointer (some ⟨p, 0, none⟩), ltrV l A c] W fun e w' => e = .returned (.bool (s.rightB l)) ∧ Below W.heap.size W w' := by
  obtain ⟨A0, c0, hb, hrd⟩ := h.blk
  obtain ⟨h0, h1, h2, h3, h4, h5, h6, h7⟩ := cells8 hb
  have HRL := Lib.hid (fun W' (hw : Below W.heap.size W W') => rightLog_calls A c l.log W' (Kd.C_below hc hw) hl hs)
  have HR1 := Lib.hid (fun n W' => right1_calls n W')
  rw [rightB_is]
  obtain ⟨kind, view, normal, log, len, stays, num, text⟩ := l
  unfold ltrV
  dsimp only at *
  have hpl := h.lt.1
  have a0 := fun (o : Obj) => (pw_cell_below (below_alloc (Below.refl W.heap.size W) o) h0)
  clear h hb hrd hc hs h1 h2 h3 h4 h5 h6 h7
  obtain ⟨sv, hsv⟩ : ∃ sv, s.view = sv := ⟨_, rfl⟩
  rw [hsv] at h0 ⊢
  simp only [hsv] at a0
  clear hsv
  obtain ⟨rl, hrl⟩ : ∃ rl, rightL log = rl := ⟨_, rfl⟩
  rw [hrl] at HRL ⊢
  clear hrl
  obtain ⟨q1, hq1⟩ : ∃ q1, in96 len = q1 := ⟨_, rfl⟩
  have HQ1 := Lib.hid (fun W' => HR1.out len W')
  rw [hq1] at HQ1 ⊢
  clear hq1
  obtain ⟨q2, hq2⟩ : ∃ q2, in96 stays = q2 := ⟨_, rfl⟩
  have HQ2 := Lib.hid (fun W' => HR1.out stays W')
  rw [hq2] at HQ2 ⊢
  clear hq2 HR1
  by_cases c1 : normal ≥ 0
  · have d1 : decide (0 ≤ normal) = true := decide_eq_true c1
    by_cases c2 : normal ≤ view
    · have d2 : decide (normal ≤ view) = true := decide_eq_true c2
      by_cases c3 : view ≤ 281474976710656
      · have d3 : decide (view ≤ 281474976710656) = true := decide_eq_true c3
        by_cases c4 : view ≥ sv
        · have d4 : decide (sv ≤ view) = true := decide_eq_true c4
          by_cases c5 : kind ≥ 1
          · have d5 : decide (1 ≤ kind) = true := decide_eq_true c5
            by_cases c6 : kind ≤ 3
            · have d6 : decide (kind ≤ 3) = true := decide_eq_true c6
              cases rl with
              | true =>
                cases q1 with
                | true =>
                  cases q2 with
                  | true =>
                    go_enter Try.func45, Try.ntmps45
                    go_wp2_with fail
                    go_quiet (fail)
                    go_wp2_with (first | (go_at_call 34; refine (HRL.out _ ?_).mono ?_; (exact pw_below_drewN (below_alloc (Below.refl _ _) _) _); rintro e w5 ⟨rfl, rfl⟩) | (go_at_call 53; refine (HQ1.out _).mono ?_; rintro e w6 ⟨rfl, rfl⟩) | (go_at_call 53; refine (HQ2.out _).mono ?_; rintro e w7 ⟨rfl, rfl⟩))
                    go_ret
                    exact ⟨by first | rfl | (rw [d1, d2, d3, d4, d5, d6]; rfl), by first | exact pw_below_drewN (below_alloc (Below.refl _ _) _) _⟩
                  | false =>
                    go_enter Try.func45, Try.ntmps45
                    go_wp2_with fail
                    go_quiet (fail)
                    go_wp2_with (first | (go_at_call 34; refine (HRL.out _ ?_).mono ?_; (exact pw_below_drewN (below_alloc (Below.refl _ _) _) _); rintro e w5 ⟨rfl, rfl⟩) | (go_at_call 53; refine (HQ1.out _).mono ?_; rintro e w6 ⟨rfl, rfl⟩) | (go_at_call 53; refine (HQ2.out _).mono ?_; rintro e w7 ⟨rfl, rfl⟩))
                    go_ret
                    exact ⟨by first | rfl | (rw [d1, d2, d3, d4, d5, d6]; rfl), by first | exact pw_below_drewN (below_alloc (Below.refl _ _) _) _⟩
                | false =>
                  go_enter Try.func45, Try.ntmps45
                  go_wp2_with fail
                  go_quiet (fail)
                  go_wp2_with (first | (go_at_call 34; refine (HRL.out _ ?_).mono ?_; (exact pw_below_drewN (below_alloc (Below.refl _ _) _) _); rintro e w5 ⟨rfl, rfl⟩) | (go_at_call 53; refine (HQ1.out _).mono ?_; rintro e w6 ⟨rfl, rfl⟩) | (go_at_call 53; refine (HQ2.out _).mono ?_; rintro e w7 ⟨rfl, rfl⟩))
                  go_ret
                  exact ⟨by first | rfl | (rw [d1, d2, d3, d4, d5, d6]; rfl), by first | exact pw_below_drewN (below_alloc (Below.refl _ _) _) _⟩
              | false =>
                go_enter Try.func45, Try.ntmps45
                go_wp2_with fail
                go_quiet (fail)
                go_wp2_with (first | (go_at_call 34; refine (HRL.out _ ?_).mono ?_; (exact pw_below_drewN (below_alloc (Below.refl _ _) _) _); rintro e w5 ⟨rfl, rfl⟩) | (go_at_call 53; refine (HQ1.out _).mono ?_; rintro e w6 ⟨rfl, rfl⟩) | (go_at_call 53; refine (HQ2.out _).mono ?_; rintro e w7 ⟨rfl, rfl⟩))
                go_ret
                exact ⟨by first | rfl | (rw [d1, d2, d3, d4, d5, d6]; rfl), by first | exact pw_below_drewN (below_alloc (Below.refl _ _) _) _⟩
            · have d6 : decide (kind ≤ 3) = false := decide_eq_false c6
              go_enter Try.func45, Try.ntmps45
              go_wp2_with fail
              go_quiet (fail)
              go_wp2_with (first | (go_at_call 34; refine (HRL.out _ ?_).mono ?_; (exact pw_below_drewN (below_alloc (Below.refl _ _) _) _); rintro e w5 ⟨rfl, rfl⟩) | (go_at_call 53; refine (HQ1.out _).mono ?_; rintro e w6 ⟨rfl, rfl⟩) | (go_at_call 53; refine (HQ2.out _).mono ?_; rintro e w7 ⟨rfl, rfl⟩))
              go_ret
              exact ⟨by first | rfl | (rw [d1, d2, d3, d4, d5, d6]; rfl), by first | exact pw_below_drewN (below_alloc (Below.refl _ _) _) _⟩
          · have d5 : decide (1 ≤ kind) = false := decide_eq_false c5
            go_enter Try.func45, Try.ntmps45
            go_wp2_with fail
            go_quiet (fail)
            go_wp2_with (first | (go_at_call 34; refine (HRL.out _ ?_).mono ?_; (exact pw_below_drewN (below_alloc (Below.refl _ _) _) _); rintro e w5 ⟨rfl, rfl⟩) | (go_at_call 53; refine (HQ1.out _).mono ?_; rintro e w6 ⟨rfl, rfl⟩) | (go_at_call 53; refine (HQ2.out _).mono ?_; rintro e w7 ⟨rfl, rfl⟩))
            go_ret
            exact ⟨by first | rfl | (rw [d1, d2, d3, d4, d5]; rfl), by first | exact pw_below_drewN (below_alloc (Below.refl _ _) _) _⟩
        · have d4 : decide (sv ≤ view) = false := decide_eq_false c4
          go_enter Try.func45, Try.ntmps45
          go_wp2_with fail
          go_quiet (fail)
          go_wp2_with (first | (go_at_call 34; refine (HRL.out _ ?_).mono ?_; (exact pw_below_drewN (below_alloc (Below.refl _ _) _) _); rintro e w5 ⟨rfl, rfl⟩) | (go_at_call 53; refine (HQ1.out _).mono ?_; rintro e w6 ⟨rfl, rfl⟩) | (go_at_call 53; refine (HQ2.out _).mono ?_; rintro e w7 ⟨rfl, rfl⟩))
          go_ret
          exact ⟨by first | rfl | (rw [d1, d2, d3, d4]; rfl), by first | exact pw_below_drewN (below_alloc (Below.refl _ _) _) _⟩
      · have d3 : decide (view ≤ 281474976710656) = false := decide_eq_false c3
        go_enter Try.func45, Try.ntmps45
        go_wp2_with fail
        go_quiet (fail)
        go_wp2_with (first | (go_at_call 34; refine (HRL.out _ ?_).mono ?_; (exact pw_below_drewN (below_alloc (Below.refl _ _) _) _); rintro e w5 ⟨rfl, rfl⟩) | (go_at_call 53; refine (HQ1.out _).mono ?_; rintro e w6 ⟨rfl, rfl⟩) | (go_at_call 53; refine (HQ2.out _).mono ?_; rintro e w7 ⟨rfl, rfl⟩))
        go_ret
        exact ⟨by first | rfl | (rw [d1, d2, d3]; rfl), by first | exact pw_below_drewN (below_alloc (Below.refl _ _) _) _⟩
    · have d2 : decide (normal ≤ view) = false := decide_eq_false c2
      go_enter Try.func45, Try.ntmps45
      go_wp2_with fail
      go_quiet (fail)
      go_wp2_with (first | (go_at_call 34; refine (HRL.out _ ?_).mono ?_; (exact pw_below_drewN (below_alloc (Below.refl _ _) _) _); rintro e w5 ⟨rfl, rfl⟩) | (go_at_call 53; refine (HQ1.out _).mono ?_; rintro e w6 ⟨rfl, rfl⟩) | (go_at_call 53; refine (HQ2.out _).mono ?_; rintro e w7 ⟨rfl, rfl⟩))
      go_ret
      exact ⟨by first | rfl | (rw [d1, d2]; rfl), by first | exact pw_below_drewN (below_alloc (Below.refl _ _) _) _⟩
  · have d1 : decide (0 ≤ normal) = false := decide_eq_false c1
    go_enter Try.func45, Try.ntmps45
    go_wp2_with fail
    go_quiet (fail)
    go_wp2_with (first | (go_at_call 34; refine (HRL.out _ ?_).mono ?_; (exact pw_below_drewN (below_alloc (Below.refl _ _) _) _); rintro e w5 ⟨rfl, rfl⟩) | (go_at_call 53; refine (HQ1.out _).mono ?_; rintro e w6 ⟨rfl, rfl⟩) | (go_at_call 53; refine (HQ2.out _).mono ?_; rintro e w7 ⟨rfl, rfl⟩))
    go_ret
    exact ⟨by first | rfl | (rw [d1]; rfl), by first | exact pw_below_drewN (below_alloc (Below.refl _ _) _) _⟩
end Go.Proofs.Ytndnjmgmdkkifaa.Vw1
