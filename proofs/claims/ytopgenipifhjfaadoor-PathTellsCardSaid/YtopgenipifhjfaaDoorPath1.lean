/- What the printed functions of the package path answer, in lists of parts. -/
import Derived.Test.YtopgenipifhjfaaDoorPath0
import Derived.Test.YtopgenipifhjfaaDoorQx2
import Derived.KernelRfl
namespace Go.Proofs.YtopgenipifhjfaaDoor.PathF
open Go Go.RowKit Go.Proofs.YtopgenipifhjfaaDoor.Rune Go.Proofs.YtopgenipifhjfaaDoor.Split Go.Proofs.YtopgenipifhjfaaDoor.Itoa Go.Proofs.YtopgenipifhjfaaDoor.PathT Go.Proofs.YtopgenipifhjfaaDoor.Q Go.Proofs.YtopgenipifhjfaaDoorW.PrintWords Go.Proofs.YtopgenipifhjfaaDoorW.PrintLast Go.Proofs.YtopgenipifhjfaaDoorW.PrintMore

theorem L_inj {a b : ByteArray} (h : L a = L b) : a = b := by rw [← BL a, ← BL b, h]
theorem L_len (a : ByteArray) : (L a).length = a.size := by simp [L]
theorem toL (a : ByteArray) : a.toList = L a := ByteArray.toList_eq ..
theorem L_drop (s : ByteArray) (a : Nat) : L (s.extract a s.size) = (L s).drop a := Lib.extract_to_end s a
theorem L_take (s : ByteArray) (k : Nat) : L (s.extract 0 k) = (L s).take k := by
  show (s.extract 0 k).data.toList = _
  simp [L]
theorem L_app (a b : ByteArray) : L (a ++ b) = L a ++ L b := by simp [L]
theorem L_B (l : List UInt8) : L (B l) = l := rfl
theorem B_eq {a : ByteArray} {l : List UInt8} (h : L a = l) : a = B l := by rw [← h, BL]
theorem w64 {x : Int} (h0 : -9223372036854775808 ≤ x) (h1 : x ≤ 9223372036854775807) : wrap64 x = x := by unfold wrap64; omega
theorem bt_L (s : ByteArray) (pre post : List UInt8) (c : UInt8) (h : L s = pre ++ c :: post) : bt s (pre.length : Int) = (c.toNat : Int) := by
  have hs : s.size = pre.length + 1 + post.length := by rw [← L_len, h]; simp; omega
  unfold bt
  rw [dif_pos (by simp; omega)]
  have : s[(pre.length : Int).toNat]'(by simp; omega) = (L s)[pre.length]'(by rw [L_len]; omega) := rfl
  rw [this]
  simp [h]

theorem split_some {p : ByteArray} {ls : List (List UInt8)} (h : OKs ls) (hp : L p = text ls) : path_Split.f p = some (ls.map B, true) := by
  unfold path_Split.f
  rw [hp, split_text h]
theorem split_none {p : ByteArray} (h : splitL (L p) = none) : path_Split.f p = some ([], false) := by
  unfold path_Split.f
  rw [h]
theorem right_some {p : ByteArray} {ls : List (List UInt8)} (h : OKs ls) (hp : L p = text ls) : path_Right.f p = some true := by
  unfold path_Right.f
  rw [split_some h hp]; rfl
theorem right_none {p : ByteArray} (h : splitL (L p) = none) : path_Right.f p = some false := by
  unfold path_Right.f
  rw [split_none h]; rfl
theorem path_cases (p : ByteArray) : splitL (L p) = none ∨ ∃ ls, OKs ls ∧ L p = text ls := by
  cases h : splitL (L p) with
  | none => exact .inl rfl
  | some ls => exact .inr ⟨ls, (splitL_iff _ _).1 h⟩
theorem size_of {p : ByteArray} {ls : List (List UInt8)} (h : OKs ls) (hp : L p = text ls) : p.size ≤ 78 := by
  rw [← L_len, hp]; exact text_len h

theorem split_app (l : List UInt8) (j : Nat) (h : j < l.length) : ∃ c, l = l.take j ++ c :: l.drop (j + 1) ∧ c ∈ l := by
  refine ⟨l[j], ?_, List.getElem_mem h⟩
  rw [← List.drop_eq_getElem_cons h, List.take_append_drop]
theorem last_loop (s : ByteArray) (pre post : List UInt8) (h : L s = pre ++ 47 :: post) (hn : (47 : UInt8) ∉ post) (hs : s.size ≤ 1000) :
    ∀ (j k : Nat), j ≤ post.length → j < k → bytealg_LastIndexByteString.l0 k s 47 ((pre.length + j : Nat) : Int) = some (pre.length : Int)
  | j, 0, _, hk => absurd hk (by omega)
  | 0, k + 1, _, _ => by
    have hsz : s.size = pre.length + 1 + post.length := by rw [← L_len, h]; simp; omega
    unfold bytealg_LastIndexByteString.l0
    rw [if_pos (by omega), if_pos (by omega), if_pos (by omega), Nat.add_zero, if_pos (by rw [bt_L s pre post 47 h]; rfl)]
  | j + 1, k + 1, hj, hk => by
    have hsz : s.size = pre.length + 1 + post.length := by rw [← L_len, h]; simp; omega
    have ih := last_loop s pre post h hn hs j k (by omega) (by omega)
    obtain ⟨c, hc, hm⟩ := split_app post j (by omega)
    have h2 : L s = (pre ++ 47 :: post.take j) ++ c :: post.drop (j + 1) := by
      rw [h]
      conv => lhs; rw [hc]
      simp
    have hl : (pre ++ 47 :: post.take j).length = pre.length + (j + 1) := by simp; omega
    have hb := bt_L s _ _ c h2
    rw [hl] at hb
    unfold bytealg_LastIndexByteString.l0
    rw [if_pos (by omega), if_pos (by omega), if_pos (by omega), if_neg (by
      rw [hb]
      intro e
      have : c = 47 := UInt8.toNat_inj.1 (by show c.toNat = 47; omega)
      rw [this] at hm
      exact hn hm), w64 (by omega) (by omega)]
    rw [show ((pre.length + (j + 1) : Nat) : Int) - 1 = ((pre.length + j : Nat) : Int) by omega]
    exact ih
theorem last_index {s : ByteArray} {pre post : List UInt8} (h : L s = pre ++ 47 :: post) (hn : (47 : UInt8) ∉ post) (hs : s.size ≤ 1000) (k : Nat) (hk : post.length < k) :
    strings_LastIndexByte.f k s 47 = some (pre.length : Int) := by
  have hsz : s.size = pre.length + 1 + post.length := by rw [← L_len, h]; simp; omega
  unfold strings_LastIndexByte.f bytealg_LastIndexByteString.f
  rw [w64 (by omega) (by omega), show (s.size : Int) - 1 = ((pre.length + post.length : Nat) : Int) by omega, last_loop s pre post h hn hs post.length k (by omega) hk]
  rfl

theorem cut_none {p : ByteArray} (k : Nat) (h : splitL (L p) = none) : path_cut.f k p = some (⟨#[]⟩, ⟨#[]⟩, false) := by
  unfold path_cut.f
  rw [right_none h]; rfl
theorem cut_root {p : ByteArray} (k : Nat) (h : L p = text []) : path_cut.f k p = some (⟨#[]⟩, ⟨#[]⟩, false) := by
  unfold path_cut.f
  rw [right_some (ls := []) ⟨by simp, by simp⟩ h, Option.bind_some, if_pos rfl, if_pos (by rw [toL, h]; rfl)]
theorem root_ne {init : List (List UInt8)} {s : List UInt8} (h : OKs (init ++ [s])) : text (init ++ [s]) ≠ [47] := by
  intro e
  have := text_inj (a := init ++ [s]) (b := []) h ⟨by simp, by simp⟩ (by rw [e]; rfl)
  simp at this
theorem cut_some {p : ByteArray} {init : List (List UInt8)} {s : List UInt8} (h : OKs (init ++ [s])) (hp : L p = text (init ++ [s])) (k : Nat) (hk : 100 ≤ k) :
    path_cut.f k p = some (B (text init), B s, true) := by
  have hsz := size_of h hp
  have hls := last_slash h
  have h1 : L p = flat init ++ 47 :: s := by rw [hp, text_snoc]
  have hlen : p.size = (flat init).length + 1 + s.length := by rw [← L_len, h1]; simp; omega
  unfold path_cut.f
  rw [right_some h hp, Option.bind_some, if_pos rfl, if_neg (by rw [toL, hp]; exact root_ne h), last_index h1 hls.1 (by omega) k (by omega), Option.bind_some]
  have hm : mx ((flat init).length : Int) 1 = ((max (flat init).length 1 : Nat) : Int) := by unfold mx; split <;> omega
  have hs0 : 0 < s.length := List.length_pos_iff.2 hls.2
  rw [hm, w64 (by omega) (by omega), if_pos (by omega), if_pos (by omega), if_pos (by omega), if_pos (by omega)]
  congr 2
  · apply B_eq
    rw [L_take, Int.toNat_natCast, h1]
    cases init with
    | nil => rfl
    | cons x r =>
      have : 1 ≤ (flat (x :: r)).length := by simp [flat]
      rw [Nat.max_eq_left this, text_ne (by simp)]
      simp
  · congr 1
    apply B_eq
    rw [L_drop, h1]
    have : (((flat init).length : Int) + 1).toNat = (flat init).length + 1 := by omega
    rw [this]
    simp
theorem parent_none {p : ByteArray} (k : Nat) (h : splitL (L p) = none) : path_Parent.f k p = some (⟨#[]⟩, false) ∧ path_Last.f k p = some ⟨#[]⟩ := by
  unfold path_Parent.f path_Last.f; rw [cut_none k h]; exact ⟨rfl, rfl⟩
theorem parent_root {p : ByteArray} (k : Nat) (h : L p = text []) : path_Parent.f k p = some (⟨#[]⟩, false) ∧ path_Last.f k p = some ⟨#[]⟩ := by
  unfold path_Parent.f path_Last.f; rw [cut_root k h]; exact ⟨rfl, rfl⟩
theorem parent_some {p : ByteArray} {init : List (List UInt8)} {s : List UInt8} (h : OKs (init ++ [s])) (hp : L p = text (init ++ [s])) (k : Nat) (hk : 100 ≤ k) :
    path_Parent.f k p = some (B (text init), true) ∧ path_Last.f k p = some (B s) := by
  unfold path_Parent.f path_Last.f; rw [cut_some h hp k hk]; exact ⟨rfl, rfl⟩

theorem slash : L (⟨#[47]⟩ : ByteArray) = [47] := rfl
theorem slash_size : ((⟨#[47]⟩ : ByteArray).size : Int) = 1 := rfl
theorem trim_yes {a : ByteArray} {x : List UInt8} (h : L a = x ++ [47]) (hs : a.size ≤ 1000) : strings_TrimSuffix.f a ⟨#[47]⟩ = some (B x) := by
  have hlen : a.size = x.length + 1 := by rw [← L_len, h]; simp
  unfold strings_TrimSuffix.f stringslite_TrimSuffix.f stringslite_HasSuffix.f
  rw [slash_size, w64 (by omega) (by omega), if_pos (by omega), if_pos (by omega), if_pos (by omega), Option.bind_some, if_pos (by
    rw [beq_iff_eq, toL, toL, L_drop, h, slash]
    have : ((a.size : Int) - 1).toNat = x.length := by omega
    rw [this]; simp), if_pos (by omega), if_pos (by omega), Option.bind_some]
  congr 1
  apply B_eq
  rw [L_take, h]
  have : ((a.size : Int) - 1).toNat = x.length := by omega
  rw [this]; simp
theorem trim_no {a : ByteArray} {x : List UInt8} {c : UInt8} (h : L a = x ++ [c]) (hc : c ≠ 47) (hs : a.size ≤ 1000) : strings_TrimSuffix.f a ⟨#[47]⟩ = some a := by
  have hlen : a.size = x.length + 1 := by rw [← L_len, h]; simp
  unfold strings_TrimSuffix.f stringslite_TrimSuffix.f stringslite_HasSuffix.f
  rw [slash_size, w64 (by omega) (by omega), if_pos (by omega), if_pos (by omega), if_pos (by omega), Option.bind_some, if_neg (by
    rw [beq_iff_eq, toL, toL, L_drop, h, slash]
    have : ((a.size : Int) - 1).toNat = x.length := by omega
    rw [this]; simpa using hc), Option.bind_some]
theorem trim_path {p : ByteArray} {ls : List (List UInt8)} (h : OKs ls) (hp : L p = text ls) : strings_TrimSuffix.f p ⟨#[47]⟩ = some (B (flat ls)) := by
  have hsz := size_of h hp
  rcases snoc_cases ls with rfl | ⟨init, s, rfl⟩
  · exact trim_yes (x := []) hp (by omega)
  · have hls := last_slash h
    rcases List.eq_nil_or_concat s with rfl | ⟨y, c, rfl⟩
    · exact absurd rfl hls.2
    · have e : B (flat (init ++ [y.concat c])) = p := by
        symm
        apply B_eq
        rw [hp, text_ne (by simp)]
      rw [e]
      refine trim_no (x := flat init ++ 47 :: y) (c := c) ?_ ?_ (by omega)
      · rw [hp, text_snoc]; simp
      · intro e2
        apply hls.1
        rw [e2]; simp

theorem join_some {p a : ByteArray} {ls : List (List UInt8)} (h : OKs ls) (hp : L p = text ls) (ha : partL (L a) = true) (h6 : ls.length < 6) :
    path_Join.f p a = some (B (text (ls ++ [L a])), true) := by
  have hsz := text_len h
  have hfl : (flat ls).length ≤ 78 := by
    by_cases hz : ls = []
    · rw [hz]; simp [flat]
    · rw [text_ne hz] at hsz; exact hsz
  have hal : a.size ≤ 12 := by rw [← L_len]; exact ((partL_iff _).1 ha).2.1
  have hB : (B (flat ls)).size = (flat ls).length := rfl
  unfold path_Join.f path_part.f
  rw [split_some h hp, Option.bind_some, if_pos rfl, ha, Option.bind_some, if_pos rfl, if_neg (by simp; omega), trim_path h hp, Option.bind_some, if_pos (by omega),
    if_pos (by
      have : (B (flat ls) ++ (⟨#[47]⟩ : ByteArray)).size = (flat ls).length + 1 := by rw [ByteArray.size_append]; rfl
      omega)]
  congr 2
  apply B_eq
  rw [L_app, L_app, text_snoc, slash, L_B]
  simp
theorem join_none {p a : ByteArray} (h : splitL (L p) = none) : path_Join.f p a = some (⟨#[]⟩, false) := by
  unfold path_Join.f
  rw [split_none h]; rfl
theorem join_part {p a : ByteArray} {ls : List (List UInt8)} (h : OKs ls) (hp : L p = text ls) (ha : partL (L a) = false) : path_Join.f p a = some (⟨#[]⟩, false) := by
  unfold path_Join.f path_part.f
  rw [split_some h hp, Option.bind_some, if_pos rfl, ha]; rfl
theorem join_deep {p a : ByteArray} {ls : List (List UInt8)} (h : OKs ls) (hp : L p = text ls) (ha : partL (L a) = true) (h6 : ls.length = 6) : path_Join.f p a = some (⟨#[]⟩, false) := by
  unfold path_Join.f path_part.f
  rw [split_some h hp, Option.bind_some, if_pos rfl, ha, Option.bind_some, if_pos rfl, if_pos (by simp; omega)]
theorem join_cases (p a : ByteArray) : path_Join.f p a = some (⟨#[]⟩, false) ∨ ∃ ls, OKs ls ∧ OKs (ls ++ [L a]) ∧ L p = text ls ∧ path_Join.f p a = some (B (text (ls ++ [L a])), true) := by
  rcases path_cases p with h | ⟨ls, h, hp⟩
  · exact .inl (join_none h)
  · cases ha : partL (L a) with
    | false => exact .inl (join_part h hp ha)
    | true =>
      by_cases h6 : ls.length < 6
      · exact .inr ⟨ls, h, h.snoc h6 ha, hp, join_some h hp ha h6⟩
      · exact .inl (join_deep h hp ha (by have := h.1; omega))

theorem prefix_yes {p t : ByteArray} {r : List UInt8} (h : L p = L t ++ r) : strings_CutPrefix.f p t = some (B r, true) := by
  have hlen : p.size = t.size + r.length := by rw [← L_len, h, List.length_append, L_len]
  unfold strings_CutPrefix.f stringslite_CutPrefix.f stringslite_HasPrefix.f
  rw [if_pos (by omega), if_pos (by omega), if_pos (by omega), Option.bind_some, if_pos (by
    rw [beq_iff_eq, toL, toL, L_take, h, Int.toNat_natCast, ← L_len t]
    simp), if_pos (by omega), if_pos (by omega), Option.bind_some]
  congr 2
  apply B_eq
  rw [L_drop, h, Int.toNat_natCast, ← L_len t]
  simp
theorem prefix_no {p t : ByteArray} (h : ¬ ∃ r, L p = L t ++ r) : strings_CutPrefix.f p t = some (p, false) := by
  unfold strings_CutPrefix.f stringslite_CutPrefix.f stringslite_HasPrefix.f
  by_cases hs : (p.size : Int) ≥ (t.size : Int)
  · rw [if_pos hs, if_pos (by omega), if_pos (by omega), Option.bind_some, if_neg (by
      rw [beq_iff_eq, toL, toL, L_take, Int.toNat_natCast]
      intro e
      exact h ⟨(L p).drop t.size, by rw [← e, List.take_append_drop]⟩)]
    rfl
  · rw [if_neg hs]
    rfl
theorem in_none_l {p q : ByteArray} (h : splitL (L p) = none) (k : Nat) (hk : 1 ≤ k) : path_In.f k p q = some false := by
  obtain ⟨k, rfl⟩ : ∃ m, k = m + 1 := ⟨k - 1, by omega⟩
  unfold path_In.f
  rw [right_none h]; rfl
theorem in_none_r {p q : ByteArray} (h : splitL (L q) = none) (k : Nat) (hk : 1 ≤ k) : path_In.f k p q = some false := by
  obtain ⟨k, rfl⟩ : ∃ m, k = m + 1 := ⟨k - 1, by omega⟩
  rcases path_cases p with hp | ⟨ls, hl, hp⟩
  · exact in_none_l hp _ hk
  · unfold path_In.f
    rw [right_some hl hp, right_none h]; rfl
theorem in_some {p q : ByteArray} {ls ks : List (List UInt8)} (hl : OKs ls) (hp : L p = text ls) (hk : OKs ks) (hq : L q = text ks) (k : Nat) (hk1 : 1 ≤ k) :
    path_In.f k p q = some (decide (ks <+: ls)) := by
  obtain ⟨k, rfl⟩ : ∃ m, k = m + 1 := ⟨k - 1, by omega⟩
  have hps := size_of hl hp
  unfold path_In.f
  rw [right_some hl hp, right_some hk hq, Option.bind_some, if_pos rfl, Option.bind_some, path_In.j0]
  rw [if_neg (by simp), trim_path hk hq, Option.bind_some]
  by_cases h : ks <+: ls
  · obtain ⟨m, rfl⟩ := h
    have key : ∃ r, L p = flat ks ++ r ∧ (r = [] ∨ ∃ t, r = 47 :: t) := by
      by_cases hz : ks ++ m = []
      · simp at hz
        obtain ⟨rfl, rfl⟩ := hz
        exact ⟨[47], hp, .inr ⟨[], rfl⟩⟩
      · exact ⟨flat m, by rw [hp, text_ne hz, flat_append], flat_start m⟩
    obtain ⟨r, hr, hr2⟩ := key
    rw [prefix_yes (t := B (flat ks)) (r := r) hr, Option.bind_some, if_pos rfl]
    have hd : decide (ks <+: ks ++ m) = true := decide_eq_true ⟨m, rfl⟩
    rw [hd]
    rcases hr2 with rfl | ⟨t, rfl⟩
    · rw [if_pos (by rw [toL]; rfl)]
    · rw [if_neg (by rw [toL, L_B]; simp), if_pos (by show (0 : Int) < ((t.length + 1 : Nat) : Int); omega)]
      have := bt_L (B (47 :: t)) [] t 47 rfl
      rw [show (([] : List UInt8).length : Int) = 0 by rfl] at this
      rw [this]; rfl
  · have hd : decide (ks <+: ls) = false := decide_eq_false h
    rw [hd]
    by_cases hr : ∃ r, L p = L (B (flat ks)) ++ r
    · obtain ⟨r, hr⟩ := hr
      rw [prefix_yes hr, Option.bind_some, if_pos rfl]
      rw [L_B] at hr
      have hno : ¬ (r = [] ∨ ∃ t, r = 47 :: t) := by
        intro h2
        by_cases hz : ls = []
        · subst hz
          by_cases hz2 : ks = []
          · exact h (by rw [hz2]; exact List.prefix_rfl)
          · rw [hp, text_nil] at hr
            cases ks with
            | nil => exact hz2 rfl
            | cons s ks =>
              rw [flat, List.cons_append] at hr
              have h3 := (List.cons.inj hr).2
              have h4 := part_ne s (hk.2 s (by simp))
              simp at h3
              exact h4 h3.1
        · rw [hp, text_ne hz] at hr
          obtain ⟨m, hm, _⟩ := pre_iff ks ls r hk.2 hl.2 h2 hr
          exact h ⟨m, hm.symm⟩
      cases r with
      | nil => exact absurd (.inl rfl) hno
      | cons c t =>
        have hc : c ≠ 47 := fun e => hno (.inr ⟨t, by rw [e]⟩)
        rw [if_neg (by rw [toL, L_B]; simp), if_pos (by show (0 : Int) < ((t.length + 1 : Nat) : Int); omega)]
        have := bt_L (B (c :: t)) [] t c rfl
        rw [show (([] : List UInt8).length : Int) = 0 by rfl] at this
        rw [this]
        congr 1
        rw [beq_eq_false_iff_ne]
        intro e
        exact hc (UInt8.toNat_inj.1 (by show c.toNat = 47; omega))
    · rw [prefix_no hr]; rfl

theorem head_true (k : Nat) (hk : 100 ≤ k) : cantonlaw01_head.f k = some true := by
  have oab : OKs [[97], [98]] := ⟨by decide, by decide⟩
  have oa : OKs [[97]] := ⟨by decide, by decide⟩
  have oab1 : OKs [[97, 98]] := ⟨by decide, by decide⟩
  have oab2 : OKs [[97], [98, 45, 49]] := ⟨by decide, by decide⟩
  have o0 : OKs [] := ⟨by decide, by decide⟩
  have p1 := parent_some (p := ⟨#[47, 97, 47, 98]⟩) (init := [[97]]) (s := [98]) oab rfl k hk
  have p2 := join_some (p := ⟨#[47]⟩) (a := ⟨#[99]⟩) o0 rfl (by decide) (by decide)
  have p3 : path_Numbered.f k ⟨#[120]⟩ 42 = some (⟨#[120, 48, 48, 52, 50]⟩, true) := by
    obtain ⟨k, rfl⟩ : ∃ m, k = m + 1 := ⟨k - 1, by omega⟩
    kernel_rfl
  have p4 := split_some (p := ⟨#[47, 97, 47, 98, 45, 49]⟩) oab2 rfl
  have p5 := right_some (p := ⟨#[47]⟩) o0 rfl
  have p6 : path_Right.f ⟨#[47, 97, 47]⟩ = some false := by decide +kernel
  have p7 := in_some (p := ⟨#[47, 97, 47, 98]⟩) (q := ⟨#[47, 97]⟩) oab rfl oa rfl k (by omega)
  have p8 := in_some (p := ⟨#[47, 97, 98]⟩) (q := ⟨#[47, 97]⟩) oab1 rfl oa rfl k (by omega)
  unfold cantonlaw01_head.f
  rw [p1.1, Option.bind_some, p2, Option.bind_some, p3, Option.bind_some, p4, Option.bind_some, p5, Option.bind_some, if_pos rfl, p6, Option.bind_some, if_neg (by decide), if_pos (by rw [toL]; rfl),
    if_pos rfl, if_pos (by rw [toL]; rfl), if_pos rfl, if_pos (by rw [toL]; rfl), if_pos rfl, if_pos rfl, if_pos (by decide), p1.2, Option.bind_some, if_pos (by rw [toL]; rfl), p7, Option.bind_some, if_pos (by decide), p8, Option.bind_some]
  decide
end Go.Proofs.YtopgenipifhjfaaDoor.PathF
