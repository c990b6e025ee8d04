/- Any bytes' sum, by any seed, and which of any two pairs is newer, are the document's. -/
import Derived.Test.YtpmkegkgaalfhaaQx1
import Derived.Test.YtpmkegkgaalfhaaS04
namespace Go.Proofs.Ytpmkegkgaalfhaa.Pure
open Go Go.RowKit Go.Proofs.Ytpmkegkgaalfhaa.Q Go.Proofs.Ytpmkegkgaalfhaa.New Go.Proofs.Ytpmkegkgaalfhaa.S04 Go.Proofs.YtpmkegkgaalfhaaW.PrintWords Go.Proofs.YtpmkegkgaalfhaaW.PrintLast

theorem ref_newer (a b c d : Int) : cantonref04_Newer.f a b c d = some (newB a b c d) := by
  unfold cantonref04_Newer.f newB pairB
  by_cases h1 : a < 0
  · rw [if_pos h1]; simp; omega
  rw [if_neg h1]
  by_cases h2 : b < 0
  · rw [if_pos h2]; simp; omega
  rw [if_neg h2]
  by_cases h3 : c < 0
  · rw [if_pos h3]; simp; omega
  rw [if_neg h3]
  by_cases h4 : d < 0
  · rw [if_pos h4]; simp; omega
  rw [if_neg h4]
  by_cases h5 : a > 281474976710656
  · rw [if_pos h5]; simp; omega
  rw [if_neg h5]
  by_cases h6 : b > 281474976710656
  · rw [if_pos h6]; simp; omega
  rw [if_neg h6]
  by_cases h7 : c > 281474976710656
  · rw [if_pos h7]; simp; omega
  rw [if_neg h7]
  by_cases h8 : d > 281474976710656
  · rw [if_pos h8]; simp; omega
  rw [if_neg h8]
  rw [decide_eq_true (show 0 ≤ a by omega), decide_eq_true (show 0 ≤ b by omega), decide_eq_true (show 0 ≤ c by omega), decide_eq_true (show 0 ≤ d by omega), decide_eq_true (show a ≤ 281474976710656 by omega), decide_eq_true (show b ≤ 281474976710656 by omega), decide_eq_true (show c ≤ 281474976710656 by omega), decide_eq_true (show d ≤ 281474976710656 by omega)]
  simp only [Bool.true_and]
  by_cases h9 : a > c
  · rw [if_pos h9, decide_eq_true (show c < a by omega)]; rfl
  rw [if_neg h9, decide_eq_false (show ¬ c < a by omega)]
  by_cases h10 : a = c
  · rw [if_pos h10, decide_eq_true h10]; rfl
  · rw [if_neg h10, decide_eq_false h10]; rfl

theorem CheckTells : cantonlaw04_CheckTells.Pure := by
  intro a0 l1 a2 a3 a4 a5 w0 _ _ wl w2 w3 w4 w5
  refine ⟨l1.length + 10, ?_⟩
  unfold cantonlaw04_CheckTells.f
  rw [head_f _ (by omega)]
  simp only [Option.bind_some]
  by_cases h : (l1.length : Int) > 100000
  · rw [if_pos h]
  rw [if_neg h, if_pos trivial, sum_f a0 (wf_u16 w0).1 (wf_u16 w0).2 l1 (by omega) (fun x hx => wf_u8 (wl x hx)) _ (by omega), ref_f a0 (wf_u16 w0).1 (wf_u16 w0).2 l1 (by omega) (fun x hx => wf_u8 (wl x hx)) _ (by omega)]
  simp only [Option.bind_some]
  rw [if_pos trivial, newer_f _ _ _ _ (wf_i64 w2) (wf_i64 w3) (wf_i64 w4) (wf_i64 w5), ref_newer]
  simp

end Go.Proofs.Ytpmkegkgaalfhaa.Pure
