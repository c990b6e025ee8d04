/- PathSplits, told of the printed function: a path's parts, joined from the root on, are it; it has as many as slashes. -/
import Derived.Test.YtopgenipifhjfaaDoorPath2
import Derived.Test.YtopgenipifhjfaaDoorQx8
namespace Go.Proofs.YtopgenipifhjfaaDoor.Pure
open Go Go.RowKit Go.Proofs.YtopgenipifhjfaaDoor.Rune Go.Proofs.YtopgenipifhjfaaDoor.Split Go.Proofs.YtopgenipifhjfaaDoor.PathT Go.Proofs.YtopgenipifhjfaaDoor.PathF Go.Proofs.YtopgenipifhjfaaDoor.Q Go.Proofs.YtopgenipifhjfaaDoorW.PrintWords Go.Proofs.YtopgenipifhjfaaDoorW.PrintLast

def fin (p x6 : ByteArray) (x4 : List ByteArray) (n : Int) : Option Bool :=
  if x6.toList = p.toList then (if p.toList = ([47] : List UInt8) then (if (x4.length : Int) = 0 then (some true) else (some false)) else (some ((x4.length : Int) == n))) else (some false)
theorem count_loop (p : ByteArray) (x4 : List ByteArray) (x6 : ByteArray) (hs : p.size ≤ 3000) : ∀ (j k i c : Nat), i + j = p.size → j < k → c ≤ i →
    cantonlaw01_PathSplits.l1 k p true x4 x6 (c : Int) (i : Int) = fin p x6 x4 ((c + ((L p).drop i).count 47 : Nat) : Int)
  | j, 0, _, _, _, h, _ => absurd h (by omega)
  | 0, k + 1, i, c, hi, _, hc => by
    rw [cantonlaw01_PathSplits.l1, if_neg (by omega), if_pos rfl]
    have : (L p).drop i = [] := List.drop_eq_nil_of_le (by rw [L_len]; omega)
    rw [this]; rfl
  | j + 1, k + 1, i, c, hi, hk, hc => by
    rw [cantonlaw01_PathSplits.l1, if_pos (by omega), if_pos (by omega)]
    obtain ⟨d, hd, _⟩ := split_app (L p) i (by rw [L_len]; omega)
    have hl : ((L p).take i).length = i := by rw [List.length_take, L_len]; omega
    have hb := bt_L p _ _ d hd
    rw [hl] at hb
    have hdr : (L p).drop i = d :: (L p).drop (i + 1) := by
      conv => lhs; rw [hd]
      rw [List.drop_append_of_le_length (by omega), List.drop_eq_nil_of_le (by omega)]; rfl
    rw [hb, hdr, w64 (x := (i : Int) + 1) (by omega) (by omega)]
    by_cases e : d = 47
    · subst e
      rw [if_pos (by rfl), w64 (by omega) (by omega)]
      have ih := count_loop p x4 x6 hs j k (i + 1) (c + 1) (by omega) (by omega) (by omega)
      rw [show ((c : Int) + 1) = ((c + 1 : Nat) : Int) by omega, show ((i : Int) + 1) = ((i + 1 : Nat) : Int) by omega, ih, List.count_cons_self]
      congr 2
      omega
    · rw [if_neg (by
        intro h
        exact e (UInt8.toNat_inj.1 (by show d.toNat = 47; omega)))]
      have ih := count_loop p x4 x6 hs j k (i + 1) c (by omega) (by omega) (by omega)
      rw [show ((i : Int) + 1) = ((i + 1 : Nat) : Int) by omega, ih, List.count_cons_of_ne (fun h => e h)]
theorem flat_count (ls : List (List UInt8)) (h : ∀ s ∈ ls, partL s = true) : (flat ls).count 47 = ls.length := by
  induction ls with
  | nil => rfl
  | cons s r ih =>
    have h1 := ih (fun x hx => h x (by simp [hx]))
    have h2 : s.count 47 = 0 := List.count_eq_zero.2 (part_no s (h s (by simp)))
    rw [flat, List.count_cons_self, List.count_append, h1, h2]
    simp
theorem join_loop (p : ByteArray) (ls : List (List UInt8)) (h : OKs ls) (hp : L p = text ls) : ∀ (j k i : Nat), i + j = ls.length → j + 1000 < k →
    cantonlaw01_PathSplits.l0 k p true (ls.map B) (B (text (ls.take i))) (i : Int) = some true
  | j, 0, _, _, hk => absurd hk (by omega)
  | 0, k + 1, i, hi, hk => by
    have hsz := size_of h hp
    rw [cantonlaw01_PathSplits.l0, if_neg (by simp; omega)]
    have hc := count_loop p (ls.map B) (B (text (ls.take i))) (by omega) p.size k 0 0 (by omega) (by omega) (by omega)
    rw [show ((0 : Nat) : Int) = 0 by rfl] at hc
    rw [hc, List.take_of_length_le (by omega)]
    unfold fin
    rw [if_pos (by rw [toL, toL, L_B, hp])]
    by_cases hz : ls = []
    · subst hz
      rw [if_pos (by rw [toL, hp]; rfl), if_pos (by rfl)]
    · rw [if_neg (by
        rw [toL, hp]
        intro e
        exact hz (text_inj (b := []) h ⟨by simp, by simp⟩ (by rw [e]; rfl))), List.drop_zero, hp, text_ne hz, flat_count ls h.2]
      simp
  | j + 1, k + 1, i, hi, hk => by
    have h6 := h.1
    have hlt : i < ls.length := by omega
    have ht : ls.take (i + 1) = ls.take i ++ [ls[i]] := by rw [List.take_succ_eq_append_getElem hlt]
    have hr : rdOf ByteArray.empty (ls.map B) (i : Int) = B ls[i] := by
      unfold rdOf
      simp [List.getD, hlt]
    have hj := join_some (p := B (text (ls.take i))) (a := B ls[i]) (ls := ls.take i) (h.take i) rfl (h.2 _ (List.getElem_mem hlt)) (by simp; omega)
    rw [cantonlaw01_PathSplits.l0, if_pos (by simp; omega), if_pos (by omega), hr, hj, Option.bind_some, if_pos rfl, w64 (by omega) (by omega), show ((i : Int) + 1) = ((i + 1 : Nat) : Int) by omega]
    have ih := join_loop p ls h hp j k (i + 1) (by omega) (by omega)
    rw [ht] at ih
    exact ih
theorem PathSplits : cantonlaw01_PathSplits.Pure := by
  intro p _
  refine ⟨2000, ?_⟩
  unfold cantonlaw01_PathSplits.f
  rw [head_true 2000 (by omega), Option.bind_some]
  split
  · rfl
  · rcases path_cases p with h | ⟨ls, h, hp⟩
    · rw [split_none h, Option.bind_some, if_neg (by simp), if_pos rfl, if_pos (by rfl), right_none h]
      rfl
    · rw [split_some h hp, Option.bind_some, if_pos rfl]
      have h6 := h.1
      exact join_loop p ls h hp ls.length 2000 0 (by omega) (by omega)
end Go.Proofs.YtopgenipifhjfaaDoor.Pure
