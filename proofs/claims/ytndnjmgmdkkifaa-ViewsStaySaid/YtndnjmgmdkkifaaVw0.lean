/- Views in memory; the walks of what only reads one: first, normal, First, Stays, most, other. -/
import Derived.Test.YtndnjmgmdkkifaaShelf
import Derived.Test.YtndnjmgmdkkifaaWLast
import Derived.Test.YtndnjmgmdkkifaaWMore
import Derived.Test.YtndnjmgmdkkifaaWShare
import Derived.WalkLawsBesides
import Derived.Lib.Hide
import Derived.Deep.LoopGhost
import Derived.Deep.QuietTactic
import Derived.BigQuiet
import Derived.Maps.OwnSet
import Derived.Maps.RangeWalk
import Derived.Maps.Views
import Derived.Carry
namespace Go.Proofs.Ytndnjmgmdkkifaa.Vw0
open Go Go.RowKit Go.Maps Go.Proofs Go.Proofs.Ytndnjmgmdkkifaa.New Go.Proofs.Ytndnjmgmdkkifaa.Vw Go.Proofs.YtndnjmgmdkkifaaW.PrintWords Go.Proofs.YtndnjmgmdkkifaaW.PrintLast Go.Proofs.YtndnjmgmdkkifaaW.PrintMore
set_option linter.unusedVariables false
set_option linter.unusedSimpArgs false

/-- the part's own block -/
def Blk (W : World) (p am cm : Nat) (A : Option Addr) (c : Nat) (s : V) : Prop :=
  W.heap[p]? = some (.cells #[.int .i64 s.view, .int .i64 s.normal, .slice A s.log.length c, .int .i64 s.me, .int .i64 s.many, .int .i64 s.stays, .map (some am), .map (some cm)] 73 (0, 0))
theorem cells8 {w : World} {g t : Nat} {v0 v1 v2 v3 v4 v5 v6 v7 : Value} (h : w.heap[g]? = some (.cells #[v0, v1, v2, v3, v4, v5, v6, v7] t (0, 0))) :
    w.cell? ⟨g, 0, none⟩ = some v0 ∧ w.cell? ⟨g, 1, none⟩ = some v1 ∧ w.cell? ⟨g, 2, none⟩ = some v2 ∧ w.cell? ⟨g, 3, none⟩ = some v3 ∧ w.cell? ⟨g, 4, none⟩ = some v4 ∧ w.cell? ⟨g, 5, none⟩ = some v5 ∧ w.cell? ⟨g, 6, none⟩ = some v6 ∧ w.cell? ⟨g, 7, none⟩ = some v7 :=
  ⟨(blk_cell h 0).trans rfl, (blk_cell h 1).trans rfl, (blk_cell h 2).trans rfl, (blk_cell h 3).trans rfl, (blk_cell h 4).trans rfl, (blk_cell h 5).trans rfl, (blk_cell h 6).trans rfl, (blk_cell h 7).trans rfl⟩
section
variable {W : World} {p am cm : Nat} {A : Option Addr} {c : Nat} {s : V}
set_option maxRecDepth 100000 in
theorem first_calls (h : Blk W p am cm A c s) (o : OkV s) : Calls Try.prog 46 #[.pointer (some ⟨p, 0, none⟩)] W fun e w' => e = .returned (.int .i64 s.first) ∧ ∃ m, w' = W.drewN m := by
  obtain ⟨h0, h1, h2, h3, h4, h5, h6, h7⟩ := cells8 h
  have b1 := o.many
  have b2 := o.normal
  have b3 := o.view
  obtain ⟨view, normal, log, me, many, stays, acked, changes⟩ := s
  unfold V.first
  dsimp only at *
  clear h h1 h2 h3 h5 h6 h7 o
  have hv0 : 0 ≤ view := by omega
  have hm0 : 1 ≤ many := b1.1
  have hm1 : many ≤ 5 := b1.2
  have hmz : (many == 0) = false := beq_eq_false_iff_ne.2 (by omega)
  clear b1 b2
  go_enter Try.func46, Try.ntmps46
  go_wp2_with fail
  go_quiet (fail)
  go_wp2_with fail
  go_ret
  exact ⟨rfl, ⟨_, rfl⟩⟩
set_option maxRecDepth 100000 in
theorem normal_calls (h : Blk W p am cm A c s) : Calls Try.prog 47 #[.pointer (some ⟨p, 0, none⟩)] W fun e w' => e = .returned (.bool s.normalB) ∧ ∃ m, w' = W.drewN m := by
  obtain ⟨h0, h1, h2, h3, h4, h5, h6, h7⟩ := cells8 h
  obtain ⟨view, normal, log, me, many, stays, acked, changes⟩ := s
  unfold V.normalB
  dsimp only at *
  clear h h2 h3 h4 h5 h6 h7
  go_enter Try.func47, Try.ntmps47
  go_wp2_with fail
  go_quiet (fail)
  go_wp2_with fail
  go_ret
  exact ⟨rfl, ⟨_, rfl⟩⟩
set_option maxRecDepth 100000 in
theorem stays_calls (h : Blk W p am cm A c s) : Calls Try.prog 22 #[.pointer (some ⟨p, 0, none⟩)] W fun e w' => e = .returned (.int .i64 s.stays) ∧ w' = W := by
  obtain ⟨h0, h1, h2, h3, h4, h5, h6, h7⟩ := cells8 h
  obtain ⟨view, normal, log, me, many, stays, acked, changes⟩ := s
  dsimp only at *
  clear h h0 h1 h2 h3 h4 h6 h7
  go_enter Try.func22, Try.ntmps22
  go_wp2_with fail
  go_ret
  exact ⟨rfl, rfl⟩
set_option maxRecDepth 100000 in
theorem most_calls (h : Blk W p am cm A c s) (n : Int) (hn : 0 ≤ n ∧ n ≤ 1000) : Calls Try.prog 50 #[.pointer (some ⟨p, 0, none⟩), .int .i64 n] W fun e w' => e = .returned (.bool (s.mostB n)) ∧ w' = W := by
  obtain ⟨h0, h1, h2, h3, h4, h5, h6, h7⟩ := cells8 h
  obtain ⟨view, normal, log, me, many, stays, acked, changes⟩ := s
  unfold V.mostB
  dsimp only at *
  clear h h0 h1 h2 h3 h5 h6 h7
  have hn0 : 0 ≤ n := hn.1
  have hn1 : n ≤ 1000 := hn.2
  clear hn
  go_enter Try.func50, Try.ntmps50
  go_wp2_with fail
  go_ret
  exact ⟨rfl, rfl⟩
set_option maxRecDepth 100000 in
theorem other_calls (h : Blk W p am cm A c s) (n : Int) : Calls Try.prog 44 #[.pointer (some ⟨p, 0, none⟩), .int .i64 n] W fun e w' => e = .returned (.bool (s.otherB n)) ∧ w' = W := by
  obtain ⟨h0, h1, h2, h3, h4, h5, h6, h7⟩ := cells8 h
  obtain ⟨view, normal, log, me, many, stays, acked, changes⟩ := s
  unfold V.otherB
  dsimp only at *
  clear h h0 h1 h2 h5 h6 h7
  by_cases c1 : n ≥ 0
  · have d1 : decide (0 ≤ n) = true := decide_eq_true c1
    by_cases c2 : n < many
    · have d2 : decide (n < many) = true := decide_eq_true c2
      go_enter Try.func44, Try.ntmps44
      go_wp2_with fail
      go_ret
      exact ⟨by first | rfl | (rw [d1, d2]; rfl), rfl⟩
    · have d2 : decide (n < many) = false := decide_eq_false c2
      go_enter Try.func44, Try.ntmps44
      go_wp2_with fail
      go_ret
      exact ⟨by first | rfl | (rw [d1, d2]; rfl), rfl⟩
  · have d1 : decide (0 ≤ n) = false := decide_eq_false c1
    go_enter Try.func44, Try.ntmps44
    go_wp2_with fail
    go_ret
    exact ⟨by first | rfl | (rw [d1]; rfl), rfl⟩
set_option maxRecDepth 100000 in
theorem First_calls (h : Blk W p am cm A c s) (o : OkV s) : Calls Try.prog 23 #[.pointer (some ⟨p, 0, none⟩)] W fun e w' => e = .returned (.bool s.firstB) ∧ ∃ m, w' = W.drewN m := by
  have HF := Lib.hid (fun n => first_calls (W := W.drewN n) h o)
  have HN := Lib.hid (fun n => normal_calls (W := W.drewN n) h)
  obtain ⟨h0, h1, h2, h3, h4, h5, h6, h7⟩ := cells8 h
  unfold V.firstB
  have hf : (s.view % s.many) = s.first := rfl
  rw [hf]
  clear h h0 h1 h2 h4 h5 h6 h7 hf o
  obtain ⟨me, hme⟩ : ∃ x, s.me = x := ⟨_, rfl⟩
  obtain ⟨f, hff⟩ : ∃ x, s.first = x := ⟨_, rfl⟩
  obtain ⟨nb, hnb⟩ : ∃ x, s.normalB = x := ⟨_, rfl⟩
  rw [hme] at h3 ⊢
  rw [hff] at HF ⊢
  rw [hnb] at HN ⊢
  clear hme hff hnb
  cases hq : f == me with
  | true =>
    go_enter Try.func23, Try.ntmps23
    go_wp2_with fail
    go_quiet (first | (go_at_call 46; exact Calls.quiet_of (HF.out _)) | (go_at_call 47; exact Calls.quiet_of (HN.out _)))
    go_wp2_with fail
    go_ret
    exact ⟨rfl, ⟨_, rfl⟩⟩
  | false =>
    go_enter Try.func23, Try.ntmps23
    go_wp2_with fail
    go_quiet (first | (go_at_call 46; exact Calls.quiet_of (HF.out _)) | (go_at_call 47; exact Calls.quiet_of (HN.out _)))
    go_wp2_with fail
    go_ret
    exact ⟨rfl, ⟨_, rfl⟩⟩
end
end Go.Proofs.Ytndnjmgmdkkifaa.Vw0
