/- A disk in memory: the walk of Of. -/
import Derived.Test.YtnobhjpobnmiaaaDoorSk6
namespace Go.Proofs.YtnobhjpobnmiaaaDoor.Sk
open Go Go.RowKit Go.Maps Go.Proofs Go.Proofs.YtnobhjpobnmiaaaDoorW.PrintWords Go.Proofs.YtnobhjpobnmiaaaDoorW.PrintLast Go.Proofs.YtnobhjpobnmiaaaDoorW.PrintMore
set_option linter.unusedVariables false
set_option linter.unusedSimpArgs false

section
variable {W W' : World}
theorem okLen_no {n : Nat} (h : okLen n = false) : n = 0 ∨ (0 < n ∧ 0 < n % 16) ∨ (0 < n ∧ n % 16 = 0 ∧ 65536 < n) := by
  unfold okLen at h
  by_cases c1 : 0 < n
  · by_cases c2 : n % 16 = 0
    · by_cases c3 : n ≤ 65536
      · rw [decide_eq_true c1, decide_eq_true c3, c2] at h; cases h
      · right; right; omega
    · right; left; omega
  · left; omega
set_option maxHeartbeats 2000000 in
set_option maxRecDepth 100000 in
theorem of_nil (A : Option Addr) (c : Nat) (b : By) (hb : b.length ≤ 140737488355328) (h : okLen b.length = false) : Calls Tryd.prog 10 #[.slice A b.length c] W fun e w' => e = .returned (.pointer none) ∧ w' = W := by
  have key := okLen_no h
  obtain ⟨n, hn⟩ : ∃ n, b.length = n := ⟨_, rfl⟩
  rw [hn] at key hb ⊢
  clear hn h
  rcases key with k1 | ⟨k1, k2⟩ | ⟨k1, k2, k3⟩
  · have z : ((n : Int) == 0) = true := beq_iff_eq.2 (by omega)
    clear k1
    go_enter Tryd.func10, Tryd.ntmps10
    go_wp2_with fail
    go_ret
    exact ⟨rfl, rfl⟩
  · have z : ((n : Int) == 0) = false := beq_eq_false_iff_ne.2 (by omega)
    have z2 : decide ((n : Int) % 16 > 0) = true := decide_eq_true (by omega)
    have q : 0 ≤ (n : Int) := by omega
    clear k1 k2
    go_enter Tryd.func10, Tryd.ntmps10
    go_wp2_with fail
    go_ret
    exact ⟨rfl, rfl⟩
  · have z : ((n : Int) == 0) = false := beq_eq_false_iff_ne.2 (by omega)
    have z2 : decide ((n : Int) % 16 > 0) = false := decide_eq_false (by omega)
    have z3 : decide ((n : Int) > 65536) = true := decide_eq_true (by omega)
    have q : 0 ≤ (n : Int) := by omega
    clear k1 k2 k3
    go_enter Tryd.func10, Tryd.ntmps10
    go_wp2_with fail
    go_ret
    exact ⟨rfl, rfl⟩
set_option maxHeartbeats 2000000 in
set_option maxRecDepth 100000 in
theorem of_calls (A : Option Addr) (c : Nat) (b : By) (hb : CB W A b.length b) (h : okLen b.length = true) : Calls Tryd.prog 10 #[.slice A b.length c] W fun e w' => ∃ p g cap m, e = .returned (.pointer (some ⟨p, 0, none⟩)) ∧ SR w' p g cap m (made b) ∧ W.heap.size ≤ p ∧ W.heap.size ≤ g ∧ W.heap.size ≤ m ∧ Below W.heap.size W w' := by
  obtain ⟨k1, k2, k3⟩ := okLen_iff h
  have HC := Lib.hid (clone_row A c b W hb k1 (by omega))
  have hmm := @run_makeMap Tryd.prog
  have HM := Lib.hid (fun w => ow_nil w (b.length / 16) b)
  have z : ((b.length : Int) == 0) = false := beq_eq_false_iff_ne.2 (by omega)
  have z2 : decide ((b.length : Int) % 16 > 0) = false := decide_eq_false (by omega)
  have z3 : decide ((b.length : Int) > 65536) = false := decide_eq_false (by omega)
  have q : 0 ≤ (b.length : Int) := by omega
  have HK := Lib.hid (And.intro k1 k3)
  clear hb h k1 k2 k3
  go_enter Tryd.func10, Tryd.ntmps10
  go_wp2_with (go_at_call 23; refine HC.out.mono ?_; rintro e w1 ⟨g, cap, rfl, h1, h2, h3, h4⟩)
  go_ret
  have hb1 := below_alloc (Below.refl w1.heap.size w1) (.map #[] 0)
  have hb2 := below_alloc hb1 (.cells #[.slice (some ⟨g, 0, none⟩) b.length cap, .map (some w1.heap.size), .int .i64 0, .int .i64 (-1), .bool false] 55)
  have hsz : (w1.alloc (.map #[] 0)).heap.size = w1.heap.size + 1 := by show (w1.heap.push _).size = _; rw [Array.size_push]
  obtain ⟨ext, hr, hx⟩ := id h2
  have hg := blk_lt hr
  refine ⟨w1.heap.size + 1, g, cap, w1.heap.size, rfl, ⟨?_, h2.keep (hb2.block g hg), ⟨0, .map [], (HM.out w1).keep (below_alloc (Below.refl _ _) _ |>.block _ (by rw [hsz]; omega)), by omega⟩, h3⟩, by have := h4.size; omega, h1, h4.size, below_step h4 hb2⟩
  have := blk_new (w1.alloc (.map #[] 0)) (.cells #[.slice (some ⟨g, 0, none⟩) b.length cap, .map (some w1.heap.size), .int .i64 0, .int .i64 (-1), .bool false] 55)
  rw [hsz] at this
  exact this
end
end Go.Proofs.YtnobhjpobnmiaaaDoor.Sk
