/- What path.Parent and cantonref01.Parent answer, in lists of parts (any seat). -/
import Derived.Test.YtinjajpnbbknnaaPathB
import Derived.Test.YtinjajpnbbknnaaQx4
namespace Go.Proofs.Ytinjajpnbbknnaa.PathF
open Go Go.RowKit Go.Proofs.Ytinjajpnbbknnaa.Rune Go.Proofs.Ytinjajpnbbknnaa.Split Go.Proofs.Ytinjajpnbbknnaa.PathT Go.Proofs.Ytinjajpnbbknnaa.Q Go.Proofs.YtinjajpnbbknnaaW.PrintWords Go.Proofs.YtinjajpnbbknnaaW.PrintLast

theorem split_app (l : List UInt8) (j : Nat) (h : j < l.length) : ∃ c, l = l.take j ++ c :: l.drop (j + 1) ∧ c ∈ l := by
  refine ⟨l[j], ?_, List.getElem_mem h⟩
  rw [← List.drop_eq_getElem_cons h, List.take_append_drop]
theorem last_loop (s : ByteArray) (pre post : List UInt8) (h : L s = pre ++ 47 :: post) (hn : (47 : UInt8) ∉ post) (hs : s.size ≤ 1000) :
    ∀ (j k : Nat), j ≤ post.length → j < k → bytealg_LastIndexByteString.l0 k s 47 ((pre.length + j : Nat) : Int) = some (pre.length : Int)
  | j, 0, _, hk => absurd hk (by omega)
  | 0, k + 1, _, _ => by
    have hsz : s.size = pre.length + 1 + post.length := by rw [← L_len, h]; simp; omega
    unfold bytealg_LastIndexByteString.l0
    rw [if_pos (by omega), if_pos (by omega), if_pos (by omega), Nat.add_zero, if_pos (by rw [bt_L s pre post 47 h]; rfl)]
  | j + 1, k + 1, hj, hk => by
    have hsz : s.size = pre.length + 1 + post.length := by rw [← L_len, h]; simp; omega
    have ih := last_loop s pre post h hn hs j k (by omega) (by omega)
    obtain ⟨c, hc, hm⟩ := split_app post j (by omega)
    have h2 : L s = (pre ++ 47 :: post.take j) ++ c :: post.drop (j + 1) := by
      rw [h]
      conv => lhs; rw [hc]
      simp
    have hl : (pre ++ 47 :: post.take j).length = pre.length + (j + 1) := by simp; omega
    have hb := bt_L s _ _ c h2
    rw [hl] at hb
    unfold bytealg_LastIndexByteString.l0
    rw [if_pos (by omega), if_pos (by omega), if_pos (by omega), if_neg (by
      rw [hb]
      intro e
      have : c = 47 := UInt8.toNat_inj.1 (by show c.toNat = 47; omega)
      rw [this] at hm
      exact hn hm), w64 (by omega) (by omega)]
    rw [show ((pre.length + (j + 1) : Nat) : Int) - 1 = ((pre.length + j : Nat) : Int) by omega]
    exact ih
theorem last_index {s : ByteArray} {pre post : List UInt8} (h : L s = pre ++ 47 :: post) (hn : (47 : UInt8) ∉ post) (hs : s.size ≤ 1000) (k : Nat) (hk : post.length < k) :
    strings_LastIndexByte.f k s 47 = some (pre.length : Int) := by
  have hsz : s.size = pre.length + 1 + post.length := by rw [← L_len, h]; simp; omega
  unfold strings_LastIndexByte.f bytealg_LastIndexByteString.f
  rw [w64 (by omega) (by omega), show (s.size : Int) - 1 = ((pre.length + post.length : Nat) : Int) by omega, last_loop s pre post h hn hs post.length k (by omega) hk]
  rfl
theorem cut_none {p : ByteArray} (k : Nat) (h : splitL (L p) = none) : path_cut.f k p = some (⟨#[]⟩, ⟨#[]⟩, false) := by
  unfold path_cut.f
  rw [right_none h]; rfl
theorem cut_root {p : ByteArray} (k : Nat) (h : L p = text []) : path_cut.f k p = some (⟨#[]⟩, ⟨#[]⟩, false) := by
  unfold path_cut.f
  rw [right_some (ls := []) ⟨by simp, by simp⟩ h, Option.bind_some, if_pos rfl, if_pos (by rw [toL, h]; rfl)]
theorem root_ne {init : List (List UInt8)} {s : List UInt8} (h : OKs (init ++ [s])) : text (init ++ [s]) ≠ [47] := by
  intro e
  have := text_inj (a := init ++ [s]) (b := []) h ⟨by simp, by simp⟩ (by rw [e]; rfl)
  simp at this
theorem cut_some {p : ByteArray} {init : List (List UInt8)} {s : List UInt8} (h : OKs (init ++ [s])) (hp : L p = text (init ++ [s])) (k : Nat) (hk : 100 ≤ k) :
    path_cut.f k p = some (B (text init), B s, true) := by
  have hsz := size_of h hp
  have hls := last_slash h
  have h1 : L p = flat init ++ 47 :: s := by rw [hp, text_snoc]
  have hlen : p.size = (flat init).length + 1 + s.length := by rw [← L_len, h1]; simp; omega
  unfold path_cut.f
  rw [right_some h hp, Option.bind_some, if_pos rfl, if_neg (by rw [toL, hp]; exact root_ne h), last_index h1 hls.1 (by omega) k (by omega), Option.bind_some]
  have hm : mx ((flat init).length : Int) 1 = ((max (flat init).length 1 : Nat) : Int) := by unfold mx; split <;> omega
  have hs0 : 0 < s.length := List.length_pos_iff.2 hls.2
  rw [hm, w64 (by omega) (by omega), if_pos (by omega), if_pos (by omega), if_pos (by omega), if_pos (by omega)]
  congr 2
  · apply B_eq
    rw [L_take, Int.toNat_natCast, h1]
    cases init with
    | nil => rfl
    | cons x r =>
      have : 1 ≤ (flat (x :: r)).length := by simp [flat]
      rw [Nat.max_eq_left this, text_ne (by simp)]
      simp
  · congr 1
    apply B_eq
    rw [L_drop, h1]
    have : (((flat init).length : Int) + 1).toNat = (flat init).length + 1 := by omega
    rw [this]
    simp
theorem parent_none {p : ByteArray} (k : Nat) (h : splitL (L p) = none) : path_Parent.f k p = some (⟨#[]⟩, false) := by
  unfold path_Parent.f; rw [cut_none k h]; rfl
theorem parent_root {p : ByteArray} (k : Nat) (h : L p = text []) : path_Parent.f k p = some (⟨#[]⟩, false) := by
  unfold path_Parent.f; rw [cut_root k h]; rfl
theorem parent_some {p : ByteArray} {init : List (List UInt8)} {s : List UInt8} (h : OKs (init ++ [s])) (hp : L p = text (init ++ [s])) (k : Nat) (hk : 100 ≤ k) :
    path_Parent.f k p = some (B (text init), true) := by
  unfold path_Parent.f; rw [cut_some h hp k hk]; rfl
/-- a path's parent; of the root, and of what is no path, the root -/
def homeP (p : ByteArray) : ByteArray := match splitL (L p) with
  | some ls => B (text ls.dropLast)
  | none => ⟨#[47]⟩
/-- what path.Parent answers -/
def parP (p : ByteArray) : ByteArray × Bool := match splitL (L p) with
  | some ls => if ls = [] then (⟨#[]⟩, false) else (B (text ls.dropLast), true)
  | none => (⟨#[]⟩, false)
theorem parent_is (p : ByteArray) (k : Nat) (hk : 100 ≤ k) : path_Parent.f k p = some (parP p) := by
  unfold parP
  rcases path_cases p with h | ⟨ls, h, hp⟩
  · rw [parent_none k h, h]
  · rw [hp, split_text h]
    rcases snoc_cases ls with rfl | ⟨init, s, rfl⟩
    · rw [parent_root k hp]; rfl
    · rw [parent_some h hp k hk]
      dsimp only
      rw [if_neg (by simp), List.dropLast_concat]
theorem home_of (p : ByteArray) : (if (parP p).2 = true then (parP p).1 else ⟨#[47]⟩) = homeP p := by
  unfold parP homeP
  cases splitL (L p) with
  | none => rfl
  | some ls =>
    dsimp only
    by_cases c : ls = []
    · subst c; rfl
    · simp [c]
end Go.Proofs.Ytinjajpnbbknnaa.PathF
