/- SectorPlays, without memory: the walk shows it true wherever its arguments are of their kinds. -/
import Derived.Test.YtpchobikpamfcaaAskSectorPlays
namespace Go.Proofs.Ytpchobikpamfcaa.Pure
open Go Go.RowKit Go.Proofs.Ytpchobikpamfcaa.Q Go.Proofs.Ytpchobikpamfcaa.Sk Go.Proofs.Ytpchobikpamfcaa.OpensSectorPlays
set_option linter.unusedVariables false
theorem u8_range {y : Int} (h : (Lit.int .u8 y).wf = true) : 0 ≤ y ∧ y ≤ 255 := by
  simp only [Lit.wf, Bool.and_eq_true, decide_eq_true_eq] at h
  exact ⟨Int.le_trans (by decide) h.1, Int.le_trans h.2 (by decide)⟩
theorem u16_range {y : Int} (h : (Lit.int .u16 y).wf = true) : 0 ≤ y ∧ y ≤ 65535 := by
  simp only [Lit.wf, Bool.and_eq_true, decide_eq_true_eq] at h
  exact ⟨Int.le_trans (by decide) h.1, Int.le_trans h.2 (by decide)⟩
theorem i64_top {y : Int} (h : (Lit.int .i64 y).wf = true) : y ≤ 9223372036854775807 := by
  simp only [Lit.wf, Bool.and_eq_true, decide_eq_true_eq] at h
  exact Int.le_trans h.2 (by decide)
theorem ops_ok {l : List S30} (h : l.length ≤ 9223372036854775807 ∧ l.length * 72 ≤ 140737488351232 ∧ ∀ y ∈ l, wf30 y) : OkOps l := by
  refine ⟨by omega, fun o ho => ?_⟩
  obtain ⟨_, _, ⟨_, a2, a3⟩, b, ⟨_, d2, _⟩⟩ := h.2.2 o ho
  exact ⟨by omega, by omega, fun y hy => u8_range (a3 y hy), i64_top b⟩
theorem SectorPlays : OpensSectorPlays.Pure := by
  intro l0 l1 h0 h1
  unfold cantonlaw03_SectorPlays.f
  rw [if_pos ⟨⟨by omega, fun y hy => u8_range (h0.2.2 y hy)⟩, ops_ok h1⟩]
end Go.Proofs.Ytpchobikpamfcaa.Pure
