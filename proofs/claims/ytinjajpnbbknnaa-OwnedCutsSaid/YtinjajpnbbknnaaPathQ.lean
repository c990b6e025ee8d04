/- What cantonref01.Parent answers (any seat). -/
import Derived.Test.YtinjajpnbbknnaaPathP
import Derived.Test.YtinjajpnbbknnaaPathR
import Derived.Test.YtinjajpnbbknnaaQx17
namespace Go.Proofs.Ytinjajpnbbknnaa.PathF
open Go Go.RowKit Go.Proofs.Ytinjajpnbbknnaa.Rune Go.Proofs.Ytinjajpnbbknnaa.Split Go.Proofs.Ytinjajpnbbknnaa.PathT Go.Proofs.Ytinjajpnbbknnaa.Q Go.Proofs.YtinjajpnbbknnaaW.PrintWords Go.Proofs.YtinjajpnbbknnaaW.PrintLast

theorem flat_le (ls : List (List UInt8)) (h : ∀ s ∈ ls, partL s = true) : (flat ls).length ≤ 13 * ls.length := by
  induction ls with
  | nil => simp [flat]
  | cons s r ih =>
    have h1 := ih (fun x hx => h x (by simp [hx]))
    have h2 := ((partL_iff s).1 (h s (by simp))).2.1
    simp [flat]; omega
theorem path_loop (ls : List (List UInt8)) (h : OKs ls) : ∀ (j k i : Nat), i + j = ls.length → j < k →
    cantonref01_path.l0 k (ls.map B) (B (flat (ls.take i))) (i : Int) = some (B (flat ls))
  | j, 0, _, _, hk => absurd hk (by omega)
  | 0, k + 1, i, hi, _ => by
    rw [cantonref01_path.l0, if_neg (by simp; omega), List.take_of_length_le (by omega)]
  | j + 1, k + 1, i, hi, hk => by
    have hlt : i < ls.length := by omega
    have h6 := h.1
    have hf := flat_le (ls.take i) (h.take i).2
    rw [List.length_take] at hf
    have hfs : (B (flat (ls.take i))).size ≤ 100 := by rw [← L_len, L_B]; omega
    have hss : (B ls[i]).size ≤ 12 := by rw [← L_len, L_B]; exact ((partL_iff _).1 (h.2 _ (List.getElem_mem hlt))).2.1
    have e1 : (B (flat (ls.take i)) ++ (⟨#[47]⟩ : ByteArray)).size = (B (flat (ls.take i))).size + 1 := by rw [ByteArray.size_append]; rfl
    rw [cantonref01_path.l0, if_pos (by simp; omega), if_pos (by omega), if_pos (by omega), rd_map ls i hlt, if_pos (by omega), w64 (by omega) (by omega), show ((i : Int) + 1) = ((i + 1 : Nat) : Int) by omega]
    have e2 : B (flat (ls.take i)) ++ (⟨#[47]⟩ : ByteArray) ++ B ls[i] = B (flat (ls.take (i + 1))) := by
      apply B_eq
      rw [L_app, L_app, L_B, L_B, slash, List.take_succ_eq_append_getElem hlt, flat_append, flat_one]
      simp
    rw [e2]
    exact path_loop ls h j k (i + 1) (by omega) (by omega)
theorem ref_path (ls : List (List UInt8)) (h : OKs ls) (k : Nat) (hk : 7 ≤ k) : cantonref01_path.f k (ls.map B) = some (B (text ls)) := by
  have h6 := h.1
  unfold cantonref01_path.f
  by_cases hz : ls = []
  · subst hz
    rw [if_pos (by rfl)]; rfl
  · have hl := List.length_pos_iff.2 hz
    rw [if_neg (by simp; exact hz), text_ne hz]
    exact path_loop ls h ls.length k 0 (by omega) (by omega)
theorem ref_parent (p : ByteArray) (hs : p.size ≤ 10000) (K : Nat) (hK : 50000 ≤ K) : cantonref01_Parent.f K p = path_Parent.f K p := by
  unfold cantonref01_Parent.f
  rw [ref_split p hs K hK]
  rcases path_cases p with h | ⟨ls, h, hp⟩
  · rw [split_none h, parent_none K h, Option.bind_some, if_neg (by simp)]
  · rw [split_some h hp, Option.bind_some, if_pos rfl]
    rcases snoc_cases ls with rfl | ⟨init, s, rfl⟩
    · rw [parent_root K hp, if_pos (by rfl)]
    · have h6 := h.1
      simp only [List.length_append, List.length_singleton] at h6
      have hlen : (((init ++ [s]).map B).length : Int) = ((init.length + 1 : Nat) : Int) := by simp
      have hw : wrap64 (((init.length + 1 : Nat) : Int) - 1) = (init.length : Int) := by rw [w64 (by omega) (by omega)]; omega
      rw [parent_some h hp K (by omega)]
      show (if (((init ++ [s]).map B).length : Int) = 0 then _ else _) = _
      rw [hlen, if_neg (by omega), hw, if_pos (by omega), if_pos (by omega), Int.toNat_natCast]
      have ht : ((init ++ [s]).map B).take init.length = init.map B := by rw [← List.map_take]; simp
      show (cantonref01_path.f K (((init ++ [s]).map B).take init.length)).bind _ = _
      rw [ht, ref_path init h.left K (by omega)]
      rfl
end Go.Proofs.Ytinjajpnbbknnaa.PathF
