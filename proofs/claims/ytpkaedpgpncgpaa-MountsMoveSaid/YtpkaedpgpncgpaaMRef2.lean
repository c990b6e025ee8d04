/- Mounts: rows of mounts are alike (cantonref14.Same). -/
import Derived.Test.YtpkaedpgpncgpaaMRef
import Derived.Test.YtpkaedpgpncgpaaQx12
namespace Go.Proofs.Ytpkaedpgpncgpaa.Mnt
open Go Go.RowKit Go.Proofs.Ytpkaedpgpncgpaa.PathF Go.Proofs.Ytpkaedpgpncgpaa.Q Go.Proofs.YtpkaedpgpncgpaaW.PrintWords Go.Proofs.YtpkaedpgpncgpaaW.PrintLast Go.Proofs.YtpkaedpgpncgpaaW.PrintMore

theorem rdx (l : List S) (i : Nat) (h : i < l.length) : rd l (i : Int) = l[i] := rd_get l i h
theorem same_loop (l : List S) (hl : l.length ≤ 100000) : ∀ (j k i : Nat), i + j = l.length → j < k → cantonref14_Same.l0 k l l (i : Int) = some true
  | j, 0, _, _, h => absurd h (by omega)
  | 0, k + 1, i, hi, _ => by rw [cantonref14_Same.l0, if_neg (by omega)]
  | j + 1, k + 1, i, hi, hk => by
    have hw : wrap64 ((i : Int) + 1) = ((i + 1 : Nat) : Int) := by rw [w64 (by omega) (by omega)]; omega
    rw [cantonref14_Same.l0, if_pos (by omega), if_pos (by omega), if_pos (by omega), if_neg (by simp), hw]
    exact same_loop l hl j k (i + 1) (by omega) (by omega)
theorem same_self (l : List S) (hl : l.length ≤ 100000) (k : Nat) (hk : l.length < k) : cantonref14_Same.f k l l = some true := by
  unfold cantonref14_Same.f
  rw [if_pos rfl]
  exact same_loop l hl l.length k 0 (by omega) hk
end Go.Proofs.Ytpkaedpgpncgpaa.Mnt
