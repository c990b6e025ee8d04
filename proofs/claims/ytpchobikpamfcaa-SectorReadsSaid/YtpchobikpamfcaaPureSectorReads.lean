/- SectorReads, without memory: the walk shows it true wherever its arguments are of their kinds. -/
import Derived.Test.YtpchobikpamfcaaAskSectorReads
namespace Go.Proofs.Ytpchobikpamfcaa.Pure
open Go Go.RowKit Go.Proofs.Ytpchobikpamfcaa.Q Go.Proofs.Ytpchobikpamfcaa.Sk Go.Proofs.Ytpchobikpamfcaa.OpensSectorReads
set_option linter.unusedVariables false
theorem u8_range {y : Int} (h : (Lit.int .u8 y).wf = true) : 0 ≤ y ∧ y ≤ 255 := by
  simp only [Lit.wf, Bool.and_eq_true, decide_eq_true_eq] at h
  exact ⟨Int.le_trans (by decide) h.1, Int.le_trans h.2 (by decide)⟩
theorem u16_range {y : Int} (h : (Lit.int .u16 y).wf = true) : 0 ≤ y ∧ y ≤ 65535 := by
  simp only [Lit.wf, Bool.and_eq_true, decide_eq_true_eq] at h
  exact ⟨Int.le_trans (by decide) h.1, Int.le_trans h.2 (by decide)⟩
theorem i64_top {y : Int} (h : (Lit.int .i64 y).wf = true) : y ≤ 9223372036854775807 := by
  simp only [Lit.wf, Bool.and_eq_true, decide_eq_true_eq] at h
  exact Int.le_trans h.2 (by decide)

theorem SectorReads : OpensSectorReads.Pure := by
  intro l0 a1 l2 h0 h1 h2
  unfold cantonlaw03_SectorReads.f
  rw [if_pos ⟨⟨by omega, fun y hy => u8_range (h0.2.2 y hy)⟩, u16_range h1, fun y hy => u8_range (h2.2.2 y hy)⟩]
end Go.Proofs.Ytpchobikpamfcaa.Pure
