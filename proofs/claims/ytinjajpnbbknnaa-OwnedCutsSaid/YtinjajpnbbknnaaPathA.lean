/- What the printed functions path.Right and path.In answer, in lists of parts (any seat). -/
import Derived.Test.YtinjajpnbbknnaaPath0
import Derived.Test.YtinjajpnbbknnaaQx4
import Derived.Test.YtinjajpnbbknnaaQx6
import Derived.KernelRfl
namespace Go.Proofs.Ytinjajpnbbknnaa.PathF
open Go Go.RowKit Go.Proofs.Ytinjajpnbbknnaa.Rune Go.Proofs.Ytinjajpnbbknnaa.Split Go.Proofs.Ytinjajpnbbknnaa.PathT Go.Proofs.Ytinjajpnbbknnaa.Q Go.Proofs.YtinjajpnbbknnaaW.PrintWords Go.Proofs.YtinjajpnbbknnaaW.PrintLast Go.Proofs.YtinjajpnbbknnaaW.PrintMore

theorem L_inj {a b : ByteArray} (h : L a = L b) : a = b := by rw [← BL a, ← BL b, h]
theorem L_len (a : ByteArray) : (L a).length = a.size := by simp [L]
theorem toL (a : ByteArray) : a.toList = L a := ByteArray.toList_eq ..
theorem L_drop (s : ByteArray) (a : Nat) : L (s.extract a s.size) = (L s).drop a := Lib.extract_to_end s a
theorem L_take (s : ByteArray) (k : Nat) : L (s.extract 0 k) = (L s).take k := by
  show (s.extract 0 k).data.toList = _
  simp [L]
theorem L_app (a b : ByteArray) : L (a ++ b) = L a ++ L b := by simp [L]
theorem L_B (l : List UInt8) : L (B l) = l := rfl
theorem B_eq {a : ByteArray} {l : List UInt8} (h : L a = l) : a = B l := by rw [← h, BL]
theorem w64 {x : Int} (h0 : -9223372036854775808 ≤ x) (h1 : x ≤ 9223372036854775807) : wrap64 x = x := by unfold wrap64; omega
theorem bt_L (s : ByteArray) (pre post : List UInt8) (c : UInt8) (h : L s = pre ++ c :: post) : bt s (pre.length : Int) = (c.toNat : Int) := by
  have hs : s.size = pre.length + 1 + post.length := by rw [← L_len, h]; simp; omega
  unfold bt
  rw [dif_pos (by simp; omega)]
  have : s[(pre.length : Int).toNat]'(by simp; omega) = (L s)[pre.length]'(by rw [L_len]; omega) := rfl
  rw [this]
  simp [h]

theorem split_some {p : ByteArray} {ls : List (List UInt8)} (h : OKs ls) (hp : L p = text ls) : path_Split.f p = some (ls.map B, true) := by
  unfold path_Split.f
  rw [hp, split_text h]
theorem split_none {p : ByteArray} (h : splitL (L p) = none) : path_Split.f p = some ([], false) := by
  unfold path_Split.f
  rw [h]
theorem right_some {p : ByteArray} {ls : List (List UInt8)} (h : OKs ls) (hp : L p = text ls) : path_Right.f p = some true := by
  unfold path_Right.f
  rw [split_some h hp]; rfl
theorem right_none {p : ByteArray} (h : splitL (L p) = none) : path_Right.f p = some false := by
  unfold path_Right.f
  rw [split_none h]; rfl
theorem path_cases (p : ByteArray) : splitL (L p) = none ∨ ∃ ls, OKs ls ∧ L p = text ls := by
  cases h : splitL (L p) with
  | none => exact .inl rfl
  | some ls => exact .inr ⟨ls, (splitL_iff _ _).1 h⟩
theorem size_of {p : ByteArray} {ls : List (List UInt8)} (h : OKs ls) (hp : L p = text ls) : p.size ≤ 78 := by
  rw [← L_len, hp]; exact text_len h

theorem slash : L (⟨#[47]⟩ : ByteArray) = [47] := rfl
theorem slash_size : ((⟨#[47]⟩ : ByteArray).size : Int) = 1 := rfl
theorem trim_yes {a : ByteArray} {x : List UInt8} (h : L a = x ++ [47]) (hs : a.size ≤ 1000) : strings_TrimSuffix.f a ⟨#[47]⟩ = some (B x) := by
  have hlen : a.size = x.length + 1 := by rw [← L_len, h]; simp
  unfold strings_TrimSuffix.f stringslite_TrimSuffix.f stringslite_HasSuffix.f
  rw [slash_size, w64 (by omega) (by omega), if_pos (by omega), if_pos (by omega), if_pos (by omega), Option.bind_some, if_pos (by
    rw [beq_iff_eq, toL, toL, L_drop, h, slash]
    have : ((a.size : Int) - 1).toNat = x.length := by omega
    rw [this]; simp), if_pos (by omega), if_pos (by omega), Option.bind_some]
  congr 1
  apply B_eq
  rw [L_take, h]
  have : ((a.size : Int) - 1).toNat = x.length := by omega
  rw [this]; simp
theorem trim_no {a : ByteArray} {x : List UInt8} {c : UInt8} (h : L a = x ++ [c]) (hc : c ≠ 47) (hs : a.size ≤ 1000) : strings_TrimSuffix.f a ⟨#[47]⟩ = some a := by
  have hlen : a.size = x.length + 1 := by rw [← L_len, h]; simp
  unfold strings_TrimSuffix.f stringslite_TrimSuffix.f stringslite_HasSuffix.f
  rw [slash_size, w64 (by omega) (by omega), if_pos (by omega), if_pos (by omega), if_pos (by omega), Option.bind_some, if_neg (by
    rw [beq_iff_eq, toL, toL, L_drop, h, slash]
    have : ((a.size : Int) - 1).toNat = x.length := by omega
    rw [this]; simpa using hc), Option.bind_some]
theorem trim_path {p : ByteArray} {ls : List (List UInt8)} (h : OKs ls) (hp : L p = text ls) : strings_TrimSuffix.f p ⟨#[47]⟩ = some (B (flat ls)) := by
  have hsz := size_of h hp
  rcases snoc_cases ls with rfl | ⟨init, s, rfl⟩
  · exact trim_yes (x := []) hp (by omega)
  · have hls := last_slash h
    rcases List.eq_nil_or_concat s with rfl | ⟨y, c, rfl⟩
    · exact absurd rfl hls.2
    · have e : B (flat (init ++ [y.concat c])) = p := by
        symm
        apply B_eq
        rw [hp, text_ne (by simp)]
      rw [e]
      refine trim_no (x := flat init ++ 47 :: y) (c := c) ?_ ?_ (by omega)
      · rw [hp, text_snoc]; simp
      · intro e2
        apply hls.1
        rw [e2]; simp

theorem prefix_yes {p t : ByteArray} {r : List UInt8} (h : L p = L t ++ r) : strings_CutPrefix.f p t = some (B r, true) := by
  have hlen : p.size = t.size + r.length := by rw [← L_len, h, List.length_append, L_len]
  unfold strings_CutPrefix.f stringslite_CutPrefix.f stringslite_HasPrefix.f
  rw [if_pos (by omega), if_pos (by omega), if_pos (by omega), Option.bind_some, if_pos (by
    rw [beq_iff_eq, toL, toL, L_take, h, Int.toNat_natCast, ← L_len t]
    simp), if_pos (by omega), if_pos (by omega), Option.bind_some]
  congr 2
  apply B_eq
  rw [L_drop, h, Int.toNat_natCast, ← L_len t]
  simp
theorem prefix_no {p t : ByteArray} (h : ¬ ∃ r, L p = L t ++ r) : strings_CutPrefix.f p t = some (p, false) := by
  unfold strings_CutPrefix.f stringslite_CutPrefix.f stringslite_HasPrefix.f
  by_cases hs : (p.size : Int) ≥ (t.size : Int)
  · rw [if_pos hs, if_pos (by omega), if_pos (by omega), Option.bind_some, if_neg (by
      rw [beq_iff_eq, toL, toL, L_take, Int.toNat_natCast]
      intro e
      exact h ⟨(L p).drop t.size, by rw [← e, List.take_append_drop]⟩)]
    rfl
  · rw [if_neg hs]
    rfl
theorem in_none_l {p q : ByteArray} (h : splitL (L p) = none) (k : Nat) (hk : 1 ≤ k) : path_In.f k p q = some false := by
  obtain ⟨k, rfl⟩ : ∃ m, k = m + 1 := ⟨k - 1, by omega⟩
  unfold path_In.f
  rw [right_none h]; rfl
theorem in_none_r {p q : ByteArray} (h : splitL (L q) = none) (k : Nat) (hk : 1 ≤ k) : path_In.f k p q = some false := by
  obtain ⟨k, rfl⟩ : ∃ m, k = m + 1 := ⟨k - 1, by omega⟩
  rcases path_cases p with hp | ⟨ls, hl, hp⟩
  · exact in_none_l hp _ hk
  · unfold path_In.f
    rw [right_some hl hp, right_none h]; rfl
theorem in_some {p q : ByteArray} {ls ks : List (List UInt8)} (hl : OKs ls) (hp : L p = text ls) (hk : OKs ks) (hq : L q = text ks) (k : Nat) (hk1 : 1 ≤ k) :
    path_In.f k p q = some (decide (ks <+: ls)) := by
  obtain ⟨k, rfl⟩ : ∃ m, k = m + 1 := ⟨k - 1, by omega⟩
  have hps := size_of hl hp
  unfold path_In.f
  rw [right_some hl hp, right_some hk hq, Option.bind_some, if_pos rfl, Option.bind_some, path_In.j0]
  rw [if_neg (by simp), trim_path hk hq, Option.bind_some]
  by_cases h : ks <+: ls
  · obtain ⟨m, rfl⟩ := h
    have key : ∃ r, L p = flat ks ++ r ∧ (r = [] ∨ ∃ t, r = 47 :: t) := by
      by_cases hz : ks ++ m = []
      · simp at hz
        obtain ⟨rfl, rfl⟩ := hz
        exact ⟨[47], hp, .inr ⟨[], rfl⟩⟩
      · exact ⟨flat m, by rw [hp, text_ne hz, flat_append], flat_start m⟩
    obtain ⟨r, hr, hr2⟩ := key
    rw [prefix_yes (t := B (flat ks)) (r := r) hr, Option.bind_some, if_pos rfl]
    have hd : decide (ks <+: ks ++ m) = true := decide_eq_true ⟨m, rfl⟩
    rw [hd]
    rcases hr2 with rfl | ⟨t, rfl⟩
    · rw [if_pos (by rw [toL]; rfl)]
    · rw [if_neg (by rw [toL, L_B]; simp), if_pos (by show (0 : Int) < ((t.length + 1 : Nat) : Int); omega)]
      have := bt_L (B (47 :: t)) [] t 47 rfl
      rw [show (([] : List UInt8).length : Int) = 0 by rfl] at this
      rw [this]; rfl
  · have hd : decide (ks <+: ls) = false := decide_eq_false h
    rw [hd]
    by_cases hr : ∃ r, L p = L (B (flat ks)) ++ r
    · obtain ⟨r, hr⟩ := hr
      rw [prefix_yes hr, Option.bind_some, if_pos rfl]
      rw [L_B] at hr
      have hno : ¬ (r = [] ∨ ∃ t, r = 47 :: t) := by
        intro h2
        by_cases hz : ls = []
        · subst hz
          by_cases hz2 : ks = []
          · exact h (by rw [hz2]; exact List.prefix_rfl)
          · rw [hp, text_nil] at hr
            cases ks with
            | nil => exact hz2 rfl
            | cons s ks =>
              rw [flat, List.cons_append] at hr
              have h3 := (List.cons.inj hr).2
              have h4 := part_ne s (hk.2 s (by simp))
              simp at h3
              exact h4 h3.1
        · rw [hp, text_ne hz] at hr
          obtain ⟨m, hm, _⟩ := pre_iff ks ls r hk.2 hl.2 h2 hr
          exact h ⟨m, hm.symm⟩
      cases r with
      | nil => exact absurd (.inl rfl) hno
      | cons c t =>
        have hc : c ≠ 47 := fun e => hno (.inr ⟨t, by rw [e]⟩)
        rw [if_neg (by rw [toL, L_B]; simp), if_pos (by show (0 : Int) < ((t.length + 1 : Nat) : Int); omega)]
        have := bt_L (B (c :: t)) [] t c rfl
        rw [show (([] : List UInt8).length : Int) = 0 by rfl] at this
        rw [this]
        congr 1
        rw [beq_eq_false_iff_ne]
        intro e
        exact hc (UInt8.toNat_inj.1 (by show c.toNat = 47; omega))
    · rw [prefix_no hr]; rfl

/-- is that a path; does one lie in another one -/
def isP (p : ByteArray) : Bool := (splitL (L p)).isSome
def inP (p q : ByteArray) : Bool :=
  match splitL (L p), splitL (L q) with
  | some a, some b => decide (b <+: a)
  | _, _ => false
theorem right_is (p : ByteArray) : path_Right.f p = some (isP p) := by
  unfold isP
  rcases path_cases p with h | ⟨ls, h, hp⟩
  · rw [right_none h, h]; rfl
  · rw [right_some h hp, hp, split_text h]; rfl
theorem in_is (p q : ByteArray) (k : Nat) (hk : 1 ≤ k) : path_In.f k p q = some (inP p q) := by
  unfold inP
  rcases path_cases p with h | ⟨ls, h, hp⟩
  · rw [in_none_l h k hk, h]
  · rcases path_cases q with g | ⟨ks, g, hq⟩
    · rw [in_none_r g k hk, g, hp, split_text h]
    · rw [in_some h hp g hq k hk, hp, split_text h, hq, split_text g]
end Go.Proofs.Ytinjajpnbbknnaa.PathF
