/- Of unlike seeds below 65520 sums are unlike; of one seed two texts of which one is the other one with up to 60 bytes more have unlike sums. -/
import Derived.Test.YtpmkegkgaalfhaaQx3
import Derived.Test.YtpmkegkgaalfhaaS04
namespace Go.Proofs.Ytpmkegkgaalfhaa.Pure
open Go Go.RowKit Go.Proofs.Ytpmkegkgaalfhaa.Q Go.Proofs.Ytpmkegkgaalfhaa.New Go.Proofs.Ytpmkegkgaalfhaa.S04 Go.Proofs.YtpmkegkgaalfhaaW.PrintWords Go.Proofs.YtpmkegkgaalfhaaW.PrintLast

theorem CheckSeeds : cantonlaw04_CheckSeeds.Pure := by
  intro a0 a1 l2 l3 w0 w1 _ _ wl2 _ _ wl3
  replace w0 := wf_u16 w0
  replace w1 := wf_u16 w1
  have hb : ∀ x ∈ l2, 0 ≤ x ∧ x ≤ 255 := fun x hx => wf_u8 (wl2 x hx)
  have hc : ∀ x ∈ l3, 0 ≤ x ∧ x ≤ 255 := fun x hx => wf_u8 (wl3 x hx)
  clear wl2 wl3
  refine ⟨l2.length + l3.length + 19 + 1, ?_⟩
  unfold cantonlaw04_CheckSeeds.f
  rw [head_f _ (by omega)]
  simp only [Option.bind_some]
  by_cases h1 : (l2.length : Int) > 9000
  · rw [if_pos h1]
    simp only [cantonlaw04_CheckSeeds.j0, if_true]
  rw [if_neg h1]
  by_cases h2 : (l3.length : Int) > 60
  · rw [decide_eq_true h2]
    simp only [cantonlaw04_CheckSeeds.j0, if_true]
  rw [decide_eq_false h2]
  simp only [cantonlaw04_CheckSeeds.j0, Option.bind_some, List.nil_append, List.length_nil]
  rw [if_neg (by simp), sum_f a0 w0.1 w0.2 l2 (by omega) hb _ (by omega), sum_f a1 w1.1 w1.2 l2 (by omega) hb _ (by omega), sum_f a0 w0.1 w0.2 (l2 ++ l3) (by simp; omega) (app_bytes hb hc) _ (by first | (simp; done) | (simp; omega))]
  simp only [Option.bind_some, if_true, sum_more a0 l2 l3 (by omega) hc]
  rw [if_pos (by omega), if_pos (by omega)]
  by_cases h3 : a0 < 65520
  · by_cases h4 : a1 < 65520
    · rw [if_pos h3, if_pos h4, sum_seeds a0 a1 (by omega) (by omega)]
      simp
    · rw [if_pos h3, if_neg h4]
      simp
  · rw [if_neg h3]
    simp

end Go.Proofs.Ytpmkegkgaalfhaa.Pure
