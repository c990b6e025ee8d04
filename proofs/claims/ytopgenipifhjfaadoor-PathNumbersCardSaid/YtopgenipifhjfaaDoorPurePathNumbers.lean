/- PathNumbers, told of the printed function: numbers behind parts have four digits. -/
import Derived.Test.YtopgenipifhjfaaDoorPath2
import Derived.Test.YtopgenipifhjfaaDoorQx7
namespace Go.Proofs.YtopgenipifhjfaaDoor.Pure
open Go Go.RowKit Go.Proofs.YtopgenipifhjfaaDoor.Rune Go.Proofs.YtopgenipifhjfaaDoor.Split Go.Proofs.YtopgenipifhjfaaDoor.PathT Go.Proofs.YtopgenipifhjfaaDoor.PathF Go.Proofs.YtopgenipifhjfaaDoor.Q Go.Proofs.YtopgenipifhjfaaDoorW.PrintWords Go.Proofs.YtopgenipifhjfaaDoorW.PrintLast

theorem mod_nat (a : Int) (h : (Lit.int .u16 a).wf = true) : ∃ n : Nat, Int.tmod a 10000 = (n : Int) ∧ n < 10000 ∧ wrap64 (Int.tmod a 10000) = (n : Int) := by
  have e1 : IntKind.u16.min = 0 := rfl
  have e2 : IntKind.u16.max = 65535 := rfl
  simp [Lit.wf, e1, e2] at h
  have h3 : Int.tmod a 10000 = ((a.toNat % 10000 : Nat) : Int) := by
    rw [Int.tmod_eq_emod_of_nonneg h.1]; omega
  refine ⟨a.toNat % 10000, h3, Nat.mod_lt _ (by omega), ?_⟩
  rw [h3]
  have := Nat.mod_lt a.toNat (show 10000 > 0 by omega)
  exact w64 (by omega) (by omega)
theorem PathNumbers : cantonlaw01_PathNumbers.Pure := by
  intro p a b _ ha hb
  refine ⟨100, ?_⟩
  obtain ⟨m, em, hm, wm⟩ := mod_nat a ha
  obtain ⟨n, en, hn, wn⟩ := mod_nat b hb
  unfold cantonlaw01_PathNumbers.f
  rw [head_true 100 (by omega), Option.bind_some]
  by_cases c : (p.size : Int) > 100
  · rw [if_pos c]
  · rw [if_neg c, wm, wn, numbered hm (by omega) 100 (by omega), Option.bind_some, numbered hn (by omega) 100 (by omega), Option.bind_some, em, en]
    by_cases ok : numOk (L p) = true
    · simp only [if_pos ok]
      have hsz : ((B (L p ++ four m)).size : Int) = wrap64 ((p.size : Int) + 4) := by
        rw [w64 (by omega) (by omega)]
        have : (B (L p ++ four m)).size = p.size + 4 := by rw [← L_len, L_B, List.length_append, L_len, four_len]
        omega
      have h1 : (Op.bytesLess (B (L p ++ four m)).toList (B (L p ++ four n)).toList == decide ((m : Int) < (n : Int))) = true := by
        rw [toL, toL, L_B, L_B, less_app, four_less m n hm hn, beq_iff_eq]
        congr 1
        apply propext; omega
      have h2 : (((B (L p ++ four m)).toList == (B (L p ++ four n)).toList) == ((m : Int) == (n : Int))) = true := by
        rw [toL, toL, L_B, L_B, beq_iff_eq, Bool.eq_iff_iff, beq_iff_eq, beq_iff_eq]
        constructor
        · intro h
          have := (four_eq m n hm hn).1 (List.append_cancel_left h)
          omega
        · intro h
          have : m = n := by omega
          rw [this]
      rw [if_neg (by simp), if_pos trivial, if_pos trivial, if_pos hsz, if_pos h1, if_pos h2, if_pos (by omega), if_pos (by
        rw [hsz, w64 (by omega) (by omega)]; omega)]
      congr 1
      rw [beq_iff_eq, toL, toL, L_take, L_B, Int.toNat_natCast, ← L_len p]
      simp
    · simp only [if_neg ok]
      rw [if_neg (by simp), if_neg (by simp), if_pos trivial, if_pos (by rfl), toL]
      rfl
end Go.Proofs.YtopgenipifhjfaaDoor.Pure
