/- A pair with a greater first number is newer; of one first number the greater second one is. -/
import Derived.Test.YtpmkegkgaalfhaaQx3
import Derived.Test.YtpmkegkgaalfhaaS04
namespace Go.Proofs.Ytpmkegkgaalfhaa.Pure
open Go Go.RowKit Go.Proofs.Ytpmkegkgaalfhaa.Q Go.Proofs.Ytpmkegkgaalfhaa.New Go.Proofs.Ytpmkegkgaalfhaa.S04 Go.Proofs.YtpmkegkgaalfhaaW.PrintWords Go.Proofs.YtpmkegkgaalfhaaW.PrintLast

theorem w64 {a : Int} (h : 0 ≤ a ∧ a ≤ 8589934592) : wrap64 a = a := by unfold wrap64; omega
theorem CheckOrder : cantonlaw04_CheckOrder.Pure := by
  intro a0 a1 a2 a3 w0 w1 w2 w3
  replace w0 := wf_u32 w0
  replace w1 := wf_u32 w1
  replace w2 := wf_u16 w2
  replace w3 := wf_u32 w3
  refine ⟨10, ?_⟩
  unfold cantonlaw04_CheckOrder.f
  rw [head_f _ (by omega)]
  simp only [Option.bind_some, if_true]
  rw [w64 (a := a0) (by omega), w64 (a := a1) (by omega), w64 (a := a2) (by omega), w64 (a := a3) (by omega), w64 (a := a2 + 1) (by omega), w64 (a := a0 + (a2 + 1)) (by omega), w64 (a := a1 + (a2 + 1)) (by omega)]
  rw [newer_f _ _ _ _ (by omega) (by omega) (by omega) (by omega), newer_f _ _ _ _ (by omega) (by omega) (by omega) (by omega), newer_f _ _ _ _ (by omega) (by omega) (by omega) (by omega), newer_f _ _ _ _ (by omega) (by omega) (by omega) (by omega)]
  simp only [Option.bind_some]
  have e1 : newB (a0 + (a2 + 1)) a1 a0 a3 = true := by simp [newB, pairB]; omega
  have e2 : newB a0 a3 (a0 + (a2 + 1)) a1 = false := by simp [newB, pairB]; omega
  have e3 : newB a0 (a1 + (a2 + 1)) a0 a1 = true := by simp [newB, pairB]; omega
  have e4 : newB a0 a1 a0 (a1 + (a2 + 1)) = false := by simp [newB, pairB]; omega
  rw [e1, e2, e3, e4]
  rfl

end Go.Proofs.Ytpmkegkgaalfhaa.Pure
