/- MountsOne, without memory: each directory has one mount, of the longest prefix that it is in. -/
import Derived.Test.YtpkaedpgpncgpaaAskMountsOne
import Derived.Test.YtpkaedpgpncgpaaMRef
import Derived.Test.YtpkaedpgpncgpaaQx6
namespace Go.Proofs.Ytpkaedpgpncgpaa.Pure
open Go Go.RowKit Go.Proofs.Ytpkaedpgpncgpaa.Q Go.Proofs.Ytpkaedpgpncgpaa.PathF Go.Proofs.Ytpkaedpgpncgpaa.Mnt Go.Proofs.YtpkaedpgpncgpaaW.PrintWords Go.Proofs.YtpkaedpgpncgpaaW.PrintLast Go.Proofs.Ytpkaedpgpncgpaa.OpensMountsOne

theorem one_head (k : Nat) (hk : 50 ≤ k) : cantonlaw14_head.f k = some true := by
  obtain ⟨m, rfl⟩ : ∃ m, k = 50 + m := ⟨k - 50, by omega⟩
  exact cantonlaw14_head.mono_le 50 m true cantonlaw14_head.at50
theorem one_loop (l : List S) (d : ByteArray) (a : Nat) (hR : RightM l) (ha : IsOf l d a) : ∀ (j i k : Nat), i + j = l.length → j + 60000 < k → cantonlaw14_MountsOne.l0 k l d true (a : Int) (i : Int) = some true
  | j, i, 0, _, h => absurd h (by omega)
  | 0, i, k + 1, hi, _ => by rw [cantonlaw14_MountsOne.l0, if_neg (by omega)]
  | j + 1, i, k + 1, hi, hk => by
    have hf := hR.few
    have hw : wrap64 ((i : Int) + 1) = ((i + 1 : Nat) : Int) := by rw [w64 (by omega) (by omega)]; omega
    have ih := one_loop l d a hR ha j (i + 1) k (by omega) (by omega)
    have hal := ha.lt
    rw [cantonlaw14_MountsOne.l0, if_pos (by omega), hw]
    by_cases e : (i : Int) = (a : Int)
    · rw [if_pos e, ih]
    · have hsi : (rd l (i : Int)).f0.size ≤ 10000 := right_sizes hR _ (by rw [rd_get l i (by omega)]; exact List.getElem_mem _)
      have hsa : (rd l (a : Int)).f0.size ≤ 10000 := right_sizes hR _ (by rw [rd_get l a hal]; exact List.getElem_mem _)
      have hdp := isP_size (in_left ha.isin)
      rw [if_neg e, if_pos (by omega), ref_in_is d (rd_T27 l (i : Int)).f0 (by omega) hsi k (by omega), Option.bind_some]
      by_cases h1 : inP d (rd l (i : Int)).f0 = true
      · have h2 := ha.most i (by omega) h1
        have h3 := in_chain h1 ha.isin h2
        have h4 : ¬ ((rd l (i : Int)).f0.size : Int) ≥ ((rd l (a : Int)).f0.size : Int) := fun hx => by
          have h5 := in_eq h3 (by omega)
          have := up_inj hR.up hal (show i < l.length by omega) h5
          omega
        rw [if_pos h1, if_pos (by omega), if_pos (by omega), if_neg h4, ref_in_is (rd_T27 l (a : Int)).f0 (rd_T27 l (i : Int)).f0 hsa hsi k (by omega), Option.bind_some, if_pos h3, ih]
      · rw [if_neg h1, ih]
theorem MountsOne : OpensMountsOne.Pure := by
  intro l d hl hd
  obtain ⟨hl, hl40, hw⟩ := hl
  refine ⟨(l.length + 200000) + 1 + 1, ?_⟩
  obtain ⟨K, hK⟩ : ∃ K, K = l.length + 200000 := ⟨_, rfl⟩
  rw [← hK]
  unfold cantonlaw14_MountsOne.f
  rw [one_head _ (by omega), Option.bind_some]
  obtain ⟨b, hb, hsz⟩ := great_is l (by omega) (fun x hx => by have := (hw x hx).1; omega) (K + 1 + 1) (by omega)
  rw [hb, Option.bind_some]
  have stop : cantonlaw14_MountsOne.j0 (K + 1 + 1) l d true true = some true := by rw [cantonlaw14_MountsOne.j0, if_pos rfl]
  by_cases c1 : b = true
  · rw [if_pos c1, stop]
  · rw [if_neg c1]
    have hs := hsz (by simpa using c1)
    by_cases c2 : (d.size : Int) > 1000
    · rw [if_pos c2, stop]
    · rw [if_neg c2, ref_right_l l (fun x hx => by have := hs.2 x hx; omega) (K + 1 + 1) (by omega), Option.bind_some]
      by_cases c3 : RightB l = true
      · have hR := (right_iff l).1 c3
        rw [if_pos c3, ref_right_is d (by omega) (K + 1 + 1) (by omega), Option.bind_some]
        by_cases c4 : isP d = true
        · rw [c4, cantonlaw14_MountsOne.j0, if_neg (by simp)]
          obtain ⟨a, hof, ha⟩ := of_right hR c4 (K + 1) (by omega)
          have hal := ha.lt
          have hsa : (rd l (a : Int)).f0.size ≤ 10000 := right_sizes hR _ (by rw [rd_get l a hal]; exact List.getElem_mem _)
          rw [hof, Option.bind_some, if_neg (by omega), if_neg (by omega), if_pos (by omega), if_pos (by omega), ref_in_is d (rd_T27 l (a : Int)).f0 (by omega) hsa (K + 1) (by omega), Option.bind_some,
            show inP d (rd_T27 l (a : Int)).f0 = true from ha.isin, cantonlaw14_MountsOne.j1, if_neg (by simp)]
          have := one_loop l d a hR ha l.length 0 K (by omega) (by omega)
          exact this
        · have : isP d = false := by simpa using c4
          rw [this]; exact stop
      · rw [if_neg c3, stop]
end Go.Proofs.Ytpkaedpgpncgpaa.Pure
