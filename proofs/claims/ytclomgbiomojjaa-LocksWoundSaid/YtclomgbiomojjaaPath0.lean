/- Plain theory of paths as lists of parts: what path.Split answers, and that a text has one list of parts. -/
import Derived.Test.YtclomgbiomojjaaSplit
namespace Go.Proofs.Ytclomgbiomojjaa.PathT
open Go Go.RowKit Go.Proofs.Ytclomgbiomojjaa.Rune Go.Proofs.Ytclomgbiomojjaa.Split

theorem partL_iff (l : List UInt8) : partL l = true ↔ l ≠ [] ∧ l.length ≤ 12 ∧ ∀ c ∈ l, okc c = true := by
  unfold partL
  simp
theorem okc_slash : okc 47 = false := by decide
theorem part_no (l : List UInt8) (h : partL l = true) : (47 : UInt8) ∉ l := by
  intro hm
  have := (partL_iff l).1 h
  have h2 := this.2.2 47 hm
  rw [okc_slash] at h2
  cases h2
theorem part_ne (l : List UInt8) (h : partL l = true) : l ≠ [] := ((partL_iff l).1 h).1

/-- parts, each behind a slash -/
def flat : List (List UInt8) → List UInt8
  | [] => []
  | s :: r => 47 :: (s ++ flat r)
/-- a path's text -/
def text (ls : List (List UInt8)) : List UInt8 := if ls = [] then [47] else flat ls
/-- parts that make a path -/
def OKs (ls : List (List UInt8)) : Prop := ls.length ≤ 6 ∧ ∀ s ∈ ls, partL s = true

theorem flat_append (a b : List (List UInt8)) : flat (a ++ b) = flat a ++ flat b := by
  induction a with
  | nil => rfl
  | cons s r ih => simp [flat, ih]
theorem flat_one (s : List UInt8) : flat [s] = 47 :: s := by simp [flat]
theorem text_nil : text [] = [47] := rfl
theorem text_ne {ls : List (List UInt8)} (h : ls ≠ []) : text ls = flat ls := by unfold text; rw [if_neg h]
theorem flat_start (ls : List (List UInt8)) : flat ls = [] ∨ ∃ r, flat ls = 47 :: r := by
  cases ls with
  | nil => exact .inl rfl
  | cons s r => exact .inr ⟨_, rfl⟩
theorem text_start (ls : List (List UInt8)) : ∃ r, text ls = 47 :: r := by
  cases ls with
  | nil => exact ⟨[], rfl⟩
  | cons s r => exact ⟨s ++ flat r, by rw [text_ne (by simp)]; rfl⟩
theorem flat_nil {ls : List (List UInt8)} (h : flat ls = []) : ls = [] := by
  cases ls with
  | nil => rfl
  | cons s r => simp [flat] at h

theorem seg_of (s r : List UInt8) (h : (47 : UInt8) ∉ s) (hr : r = [] ∨ ∃ t, r = 47 :: t) : seg (s ++ r) = s ∧ tl (s ++ r) = r := by
  induction s with
  | nil =>
    rcases hr with rfl | ⟨t, rfl⟩
    · exact ⟨rfl, rfl⟩
    · simp [seg, tl]
  | cons c s ih =>
    have h1 : c ≠ 47 := fun e => h (by simp [e])
    have h2 := ih (fun e => h (List.mem_cons_of_mem _ e))
    simp [seg, tl, h1, h2]
theorem tl_start (l : List UInt8) : tl l = [] ∨ ∃ t, tl l = 47 :: t := by
  induction l with
  | nil => exact .inl rfl
  | cons c l ih =>
    unfold tl
    by_cases h : c = 47
    · rw [if_pos h, h]; exact .inr ⟨_, rfl⟩
    · rw [if_neg h]; exact ih

theorem cont_iff : ∀ (k : Nat) (l : List UInt8) (o ls : List (List UInt8)), l.length < k → o.length ≤ 6 →
    (cont k l o = some ls ↔ ∃ m, ls = o ++ m ∧ ls ≠ [] ∧ l = flat m ∧ (∀ s ∈ m, partL s = true) ∧ ls.length ≤ 6)
  | 0, l, o, ls, h, _ => absurd h (by omega)
  | k + 1, [], o, ls, h, ho => by
    unfold cont
    constructor
    · intro e
      by_cases hz : o = []
      · rw [if_pos hz] at e; cases e
      · rw [if_neg hz] at e
        cases e
        exact ⟨[], by simp, hz, rfl, by simp, ho⟩
    · rintro ⟨m, rfl, h1, h2, h3, h4⟩
      have hm := flat_nil h2.symm
      subst hm
      rw [List.append_nil] at h1 ⊢
      rw [if_neg h1]
  | k + 1, c :: r, o, ls, h, ho => by
    unfold cont
    by_cases hc : c = 47
    · subst hc
      rw [if_pos rfl]
      by_cases h6 : o.length = 6
      · rw [if_pos h6]
        constructor
        · intro e; cases e
        · rintro ⟨m, rfl, h1, h2, h3, h4⟩
          cases m with
          | nil => simp [flat] at h2
          | cons s m => simp at h4; omega
      · rw [if_neg h6]
        by_cases hp : partL (seg r) = true
        · rw [if_pos hp]
          have ih := cont_iff k (tl r) (o ++ [seg r]) ls (by have := tl_le r; simp at h; omega) (by simp; omega)
          rw [ih]
          constructor
          · rintro ⟨m, rfl, h1, h2, h3, h4⟩
            refine ⟨seg r :: m, by simp, h1, ?_, ?_, h4⟩
            · rw [flat, ← h2, seg_tl]
            · intro s hs
              rcases List.mem_cons.1 hs with rfl | hs
              · exact hp
              · exact h3 s hs
          · rintro ⟨m, rfl, h1, h2, h3, h4⟩
            cases m with
            | nil => simp [flat] at h2
            | cons s m =>
              rw [flat] at h2
              have h5 : r = s ++ flat m := (List.cons.inj h2).2
              have h6 := seg_of s (flat m) (part_no s (h3 s (by simp))) (flat_start m)
              rw [← h5] at h6
              refine ⟨m, by simp [h6.1], h1, h6.2, fun x hx => h3 x (by simp [hx]), h4⟩
        · rw [if_neg hp]
          constructor
          · intro e; cases e
          · rintro ⟨m, rfl, h1, h2, h3, h4⟩
            cases m with
            | nil => simp [flat] at h2
            | cons s m =>
              rw [flat] at h2
              have h5 : r = s ++ flat m := (List.cons.inj h2).2
              have h6 := seg_of s (flat m) (part_no s (h3 s (by simp))) (flat_start m)
              rw [← h5] at h6
              rw [h6.1] at hp
              exact absurd (h3 s (by simp)) hp
    · rw [if_neg hc]
      constructor
      · intro e; cases e
      · rintro ⟨m, rfl, h1, h2, h3, h4⟩
        cases m with
        | nil => simp [flat] at h2
        | cons s m => rw [flat] at h2; exact absurd (List.cons.inj h2).1 hc

theorem splitL_iff (l : List UInt8) (ls : List (List UInt8)) : splitL l = some ls ↔ OKs ls ∧ l = text ls := by
  unfold splitL
  by_cases h : l = [47]
  · rw [if_pos h]
    constructor
    · intro e; cases e
      exact ⟨⟨by simp, by simp⟩, h⟩
    · rintro ⟨⟨h1, h2⟩, h3⟩
      cases ls with
      | nil => rfl
      | cons s r =>
        rw [text_ne (by simp), h, flat] at h3
        have := (List.cons.inj h3).2
        have hs := part_ne s (h2 s (by simp))
        simp at this
        exact absurd this.1 hs
  · rw [if_neg h, cont_iff _ _ _ _ (by omega) (by simp)]
    constructor
    · rintro ⟨m, e, h1, h2, h3, h4⟩
      have e2 : ls = m := by rw [e]; rfl
      subst e2
      exact ⟨⟨h4, h3⟩, by rw [text_ne h1]; exact h2⟩
    · rintro ⟨⟨h1, h2⟩, h3⟩
      by_cases hz : ls = []
      · subst hz; exact absurd h3 h
      · exact ⟨ls, by simp, hz, by rw [text_ne hz] at h3; exact h3, h2, h1⟩
theorem split_text {ls : List (List UInt8)} (h : OKs ls) : splitL (text ls) = some ls := (splitL_iff _ _).2 ⟨h, rfl⟩
theorem text_inj {a b : List (List UInt8)} (ha : OKs a) (hb : OKs b) (h : text a = text b) : a = b := by
  have := split_text ha
  rw [h, split_text hb] at this
  exact (Option.some.inj this).symm
theorem OKs.take {ls : List (List UInt8)} (h : OKs ls) (n : Nat) : OKs (ls.take n) := ⟨by have := h.1; simp; omega, fun s hs => h.2 s (List.mem_of_mem_take hs)⟩
theorem OKs.left {a b : List (List UInt8)} (h : OKs (a ++ b)) : OKs a := ⟨by have := h.1; simp at this; omega, fun s hs => h.2 s (by simp [hs])⟩
theorem OKs.snoc {a : List (List UInt8)} {s : List UInt8} (h : OKs a) (h6 : a.length < 6) (hs : partL s = true) : OKs (a ++ [s]) :=
  ⟨by simp; omega, fun x hx => by rcases List.mem_append.1 hx with hx | hx; exact h.2 x hx; simp at hx; rw [hx]; exact hs⟩
theorem text_snoc (a : List (List UInt8)) (s : List UInt8) : text (a ++ [s]) = flat a ++ 47 :: s := by
  rw [text_ne (by simp), flat_append, flat_one]

/-- one list's parts begin another one's, just if one's text does the other one's, up to a slash or the end -/
theorem pre_iff : ∀ (ks ls : List (List UInt8)) (rest : List UInt8), (∀ s ∈ ks, partL s = true) → (∀ s ∈ ls, partL s = true) → (rest = [] ∨ ∃ t, rest = 47 :: t) →
    flat ls = flat ks ++ rest → ∃ m, ls = ks ++ m ∧ rest = flat m
  | [], ls, rest, _, _, _, h => ⟨ls, rfl, by simpa [flat] using h.symm⟩
  | s :: ks, [], rest, _, _, _, h => by simp [flat] at h
  | s :: ks, t :: ls, rest, hk, hl, hr, h => by
    simp only [flat, List.cons_append, List.append_assoc, List.cons.injEq, true_and] at h
    have h1 := seg_of t (flat ls) (part_no t (hl t (by simp))) (flat_start ls)
    have h2 := seg_of s (flat ks ++ rest) (part_no s (hk s (by simp))) (by
      rcases flat_start ks with e | ⟨r, e⟩
      · rw [e, List.nil_append]; exact hr
      · rw [e]; exact .inr ⟨_, rfl⟩)
    rw [h, h2.1, h2.2] at h1
    obtain ⟨m, rfl, hm⟩ := pre_iff ks ls rest (fun x hx => hk x (by simp [hx])) (fun x hx => hl x (by simp [hx])) hr h1.2.symm
    exact ⟨m, by rw [h1.1]; rfl, hm⟩
theorem text_len {ls : List (List UInt8)} (h : OKs ls) : (text ls).length ≤ 78 := by
  have key : ∀ m : List (List UInt8), (∀ s ∈ m, partL s = true) → (flat m).length ≤ 13 * m.length := by
    intro m
    induction m with
    | nil => intro _; simp [flat]
    | cons s r ih =>
      intro hm
      have h1 := ih (fun x hx => hm x (by simp [hx]))
      have h2 := ((partL_iff s).1 (hm s (by simp))).2.1
      simp [flat]; omega
  unfold text
  split
  · simp
  · have := key ls h.2
    have := h.1
    omega
/-- a text that ends in a part, with no slash -/
theorem last_slash {init : List (List UInt8)} {s : List UInt8} (h : OKs (init ++ [s])) : (47 : UInt8) ∉ s ∧ s ≠ [] := ⟨part_no s (h.2 s (by simp)), part_ne s (h.2 s (by simp))⟩
theorem snoc_cases (ls : List (List UInt8)) : ls = [] ∨ ∃ init s, ls = init ++ [s] := by
  rcases List.eq_nil_or_concat ls with h | ⟨a, b, h⟩
  · exact .inl h
  · exact .inr ⟨a, b, by rw [h]; simp⟩
end Go.Proofs.Ytclomgbiomojjaa.PathT
