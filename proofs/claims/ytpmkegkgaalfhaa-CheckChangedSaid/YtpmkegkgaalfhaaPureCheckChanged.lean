/- With one byte changed a sum is another one. -/
import Derived.Test.YtpmkegkgaalfhaaQx1
import Derived.Test.YtpmkegkgaalfhaaS04
namespace Go.Proofs.Ytpmkegkgaalfhaa.Pure
open Go Go.RowKit Go.Proofs.Ytpmkegkgaalfhaa.Q Go.Proofs.Ytpmkegkgaalfhaa.New Go.Proofs.Ytpmkegkgaalfhaa.S04 Go.Proofs.YtpmkegkgaalfhaaW.PrintWords Go.Proofs.YtpmkegkgaalfhaaW.PrintLast

theorem CheckChanged : cantonlaw04_CheckChanged.Pure := by
  intro a0 l1 a2 a3 w0 _ _ wl w2 w3
  replace w0 := wf_u16 w0
  replace w2 := wf_u16 w2
  replace w3 := wf_u8 w3
  have hb : ∀ x ∈ l1, 0 ≤ x ∧ x ≤ 255 := fun x hx => wf_u8 (wl x hx)
  clear wl
  refine ⟨l1.length + 9 + 1, ?_⟩
  unfold cantonlaw04_CheckChanged.f
  rw [head_f _ (by omega)]
  simp only [Option.bind_some]
  by_cases h0 : (l1.length : Int) = 0
  · rw [if_pos h0]
    simp only [cantonlaw04_CheckChanged.j0, if_true]
  rw [if_neg h0]
  by_cases h1 : (l1.length : Int) > 100000
  · rw [decide_eq_true h1]
    simp only [cantonlaw04_CheckChanged.j0, if_true]
  rw [decide_eq_false h1]
  simp only [cantonlaw04_CheckChanged.j0, Option.bind_some, List.nil_append, List.length_nil]
  have hw : wrap64 a2 = a2 := by unfold wrap64; omega
  rw [if_neg (by simp), if_neg h0, if_pos (by omega), hw, Int.tmod_eq_emod_of_nonneg w2.1]
  obtain ⟨i, hi⟩ := Int.eq_ofNat_of_zero_le (Int.emod_nonneg a2 h0)
  have hlt : a2 % (l1.length : Int) < (l1.length : Int) := Int.emod_lt_of_pos _ (by omega)
  rw [hi] at hlt ⊢
  rw [if_pos (by omega), if_pos hlt, Int.toNat_natCast, if_pos trivial]
  rw [sum_f a0 w0.1 w0.2 (l1.set i a3) (by simp; omega) (set_bytes hb i w3) _ (by simp), sum_f a0 w0.1 w0.2 l1 (by omega) hb _ (by omega)]
  simp only [Option.bind_some]
  rw [if_pos hlt, sum_set a0 l1 i a3 (by omega) w3 hb]
  simp

end Go.Proofs.Ytpmkegkgaalfhaa.Pure
