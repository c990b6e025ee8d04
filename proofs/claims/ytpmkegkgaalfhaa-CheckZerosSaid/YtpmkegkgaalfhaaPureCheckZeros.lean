/- A zero more, behind or ahead, makes another sum; so do two unlike bytes beside one another that change places. -/
import Derived.Test.YtpmkegkgaalfhaaQx2
import Derived.Test.YtpmkegkgaalfhaaS04
namespace Go.Proofs.Ytpmkegkgaalfhaa.Pure
open Go Go.RowKit Go.Proofs.Ytpmkegkgaalfhaa.Q Go.Proofs.Ytpmkegkgaalfhaa.New Go.Proofs.Ytpmkegkgaalfhaa.S04 Go.Proofs.YtpmkegkgaalfhaaW.PrintWords Go.Proofs.YtpmkegkgaalfhaaW.PrintLast

theorem split_two (l : List Int) (i : Nat) (h : i + 1 < l.length) : ∃ p q : List Int, p.length = i ∧ l = p ++ rd l (i : Int) :: rd l ((i + 1 : Nat) : Int) :: q := by
  refine ⟨l.take i, l.drop (i + 2), by simp; omega, ?_⟩
  rw [← drop_at l (i + 1) h, ← drop_at l i (by omega), List.take_append_drop]

theorem CheckZeros : cantonlaw04_CheckZeros.Pure := by
  intro a0 l1 a2 w0 _ _ wl w2
  replace w0 := wf_u16 w0
  replace w2 := wf_u16 w2
  have hb : ∀ x ∈ l1, 0 ≤ x ∧ x ≤ 255 := fun x hx => wf_u8 (wl x hx)
  clear wl
  refine ⟨l1.length + 19 + 1, ?_⟩
  unfold cantonlaw04_CheckZeros.f
  rw [head_f _ (by omega)]
  simp only [Option.bind_some]
  by_cases h1 : (l1.length : Int) > 9000
  · rw [if_pos h1]
  rw [if_neg h1, sum_f a0 w0.1 w0.2 l1 (by omega) hb _ (by omega)]
  simp only [Option.bind_some, List.nil_append, List.length_nil, List.length_cons]
  have hz : ∀ x ∈ [(0 : Int)], 0 ≤ x ∧ x ≤ 255 := by intro x hx; simp at hx; omega
  rw [if_pos (by omega), if_pos (by omega), if_pos (by omega)]
  rw [sum_f a0 w0.1 w0.2 (l1 ++ [0]) (by simp; omega) (app_bytes hb hz) _ (by simp)]
  simp only [Option.bind_some]
  rw [if_neg (sum_behind a0 l1), sum_f a0 w0.1 w0.2 ([0] ++ l1) (by simp; omega) (app_bytes hz hb) _ (by simp)]
  simp only [Option.bind_some]
  rw [beq_eq_false_iff_ne.2 (sum_ahead a0 l1)]
  simp only [cantonlaw04_CheckZeros.j0, Option.bind_some, List.nil_append, List.length_nil]
  rw [if_neg (by simp)]
  by_cases h2 : (l1.length : Int) < 2
  · rw [if_pos h2]
  have hw : wrap64 a2 = a2 := by unfold wrap64; omega
  have hn : wrap64 ((l1.length : Int) - 1) = (l1.length : Int) - 1 := by unfold wrap64; omega
  rw [if_neg h2, hw, hn, if_neg (by omega), if_pos (by omega), Int.tmod_eq_emod_of_nonneg w2.1]
  obtain ⟨i, hi⟩ := Int.eq_ofNat_of_zero_le (Int.emod_nonneg a2 (show (l1.length : Int) - 1 ≠ 0 by omega))
  have hlt : a2 % ((l1.length : Int) - 1) < (l1.length : Int) - 1 := Int.emod_lt_of_pos _ (by omega)
  rw [hi] at hlt ⊢
  have hi1 : wrap64 ((i : Int) + 1) = ((i + 1 : Nat) : Int) := by unfold wrap64; omega
  rw [hi1, if_pos (by omega), if_pos (by omega), if_pos (by omega), if_pos (by omega), if_pos (by omega), if_pos (by omega), if_pos trivial, Int.toNat_natCast, Int.toNat_natCast]
  obtain ⟨p, q, hp, hl⟩ := split_two l1 i (by omega)
  have hx := hb (rd l1 (i : Int)) (by rw [rd_at l1 i (by omega)]; exact List.getElem_mem _)
  have hy := hb (rd l1 ((i + 1 : Nat) : Int)) (by rw [rd_at l1 (i + 1) (by omega)]; exact List.getElem_mem _)
  generalize rd l1 (i : Int) = x at *
  generalize rd l1 ((i + 1 : Nat) : Int) = y at *
  have hs : (l1.set i y).set (i + 1) x = p ++ y :: x :: q := by rw [hl, ← hp, swap_list]
  rw [hs]
  have hb2 : ∀ z ∈ p ++ y :: x :: q, 0 ≤ z ∧ z ≤ 255 := by rw [← hs]; exact set_bytes (set_bytes hb i hy) (i + 1) hx
  have hlen : (p ++ y :: x :: q).length = l1.length := by rw [← hs]; simp
  rw [sum_f a0 w0.1 w0.2 (p ++ y :: x :: q) (by omega) hb2 _ (by omega)]
  simp only [Option.bind_some]
  rw [hl, sum_swap a0 p q x y hx hy]
  simp

end Go.Proofs.Ytpmkegkgaalfhaa.Pure
