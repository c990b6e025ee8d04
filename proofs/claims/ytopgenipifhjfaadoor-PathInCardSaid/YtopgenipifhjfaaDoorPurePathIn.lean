/- PathIn, told of the printed function: to lie in a path is an order of paths. -/
import Derived.Test.YtopgenipifhjfaaDoorPath1
import Derived.Test.YtopgenipifhjfaaDoorQx7
namespace Go.Proofs.YtopgenipifhjfaaDoor.Pure
open Go Go.RowKit Go.Proofs.YtopgenipifhjfaaDoor.Rune Go.Proofs.YtopgenipifhjfaaDoor.Split Go.Proofs.YtopgenipifhjfaaDoor.PathT Go.Proofs.YtopgenipifhjfaaDoor.PathF Go.Proofs.YtopgenipifhjfaaDoor.Q Go.Proofs.YtopgenipifhjfaaDoorW.PrintWords Go.Proofs.YtopgenipifhjfaaDoorW.PrintLast

def isIn (p q : ByteArray) : Bool :=
  match splitL (L p), splitL (L q) with
  | some a, some b => decide (b <+: a)
  | _, _ => false
theorem in_is (p q : ByteArray) (k : Nat) (hk : 1 ≤ k) : path_In.f k p q = some (isIn p q) := by
  unfold isIn
  rcases path_cases p with h | ⟨ls, h, hp⟩
  · rw [in_none_l h k hk, h]
  · rcases path_cases q with h2 | ⟨ks, h2, hq⟩
    · rw [in_none_r h2 k hk, h2, hp, split_text h]
    · rw [in_some h hp h2 hq k hk, hp, hq, split_text h, split_text h2]
theorem right_is (p : ByteArray) : path_Right.f p = some (splitL (L p)).isSome := by
  rcases path_cases p with h | ⟨ls, h, hp⟩
  · rw [right_none h, h]; rfl
  · rw [right_some h hp, hp, split_text h]; rfl
theorem in_self (p : ByteArray) : isIn p p = (splitL (L p)).isSome := by
  unfold isIn
  cases splitL (L p) with
  | none => rfl
  | some a => simp
theorem in_root (p : ByteArray) : isIn p ⟨#[47]⟩ = (splitL (L p)).isSome := by
  unfold isIn
  rw [show splitL (L ⟨#[47]⟩) = some [] from rfl]
  cases splitL (L p) with
  | none => rfl
  | some a => simp
theorem isIn_iff (p q : ByteArray) : isIn p q = true ↔ ∃ a b, OKs a ∧ L p = text a ∧ OKs b ∧ L q = text b ∧ b <+: a := by
  unfold isIn
  rcases path_cases p with h | ⟨ls, h, hp⟩
  · rw [h]
    constructor
    · intro e; simp at e
    · rintro ⟨a, b, ha, hpa, _⟩
      rw [hpa, split_text ha] at h; cases h
  · rcases path_cases q with h2 | ⟨ks, h2, hq⟩
    · rw [h2, hp, split_text h]
      constructor
      · intro e; simp at e
      · rintro ⟨a, b, _, _, hb, hqb, _⟩
        rw [hqb, split_text hb] at h2; cases h2
    · rw [hp, hq, split_text h, split_text h2]
      constructor
      · intro e
        exact ⟨ls, ks, h, rfl, h2, rfl, by simpa using e⟩
      · rintro ⟨a, b, ha, hpa, hb, hqb, hab⟩
        have e1 := text_inj h ha hpa
        have e2 := text_inj h2 hb hqb
        subst e1; subst e2
        simpa using hab
theorem in_trans (p q s : ByteArray) (h1 : isIn p q = true) (h2 : isIn q s = true) : isIn p s = true := by
  obtain ⟨a, b, ha, hp, hb, hq, hab⟩ := (isIn_iff _ _).1 h1
  obtain ⟨b', c, hb', hq', hc, hs, hbc⟩ := (isIn_iff _ _).1 h2
  have e := text_inj hb hb' (hq.symm.trans hq')
  subst e
  exact (isIn_iff _ _).2 ⟨a, c, ha, hp, hc, hs, hbc.trans hab⟩
theorem in_anti (p q : ByteArray) (h1 : isIn p q = true) (h2 : isIn q p = true) : p = q := by
  obtain ⟨a, b, ha, hp, hb, hq, hab⟩ := (isIn_iff _ _).1 h1
  obtain ⟨b', a', hb', hq', ha', hp', hba⟩ := (isIn_iff _ _).1 h2
  have e1 := text_inj hb hb' (hq.symm.trans hq')
  have e2 := text_inj ha ha' (hp.symm.trans hp')
  subst e1; subst e2
  have e3 := hab.eq_of_length_le hba.length_le
  apply L_inj
  rw [hp, hq, e3]

theorem in2 (k : Nat) (hk : 102 ≤ k) (p : ByteArray) : cantonlaw01_PathIn.j2 k p true false = some true := by
  obtain ⟨k, rfl⟩ : ∃ m, k = m + 1 := ⟨k - 1, by omega⟩
  rw [cantonlaw01_PathIn.j2, if_neg (by simp)]
  rcases path_cases p with h | ⟨ls, h, hp⟩
  · rw [(parent_none k h).1, Option.bind_some, if_pos rfl, if_neg (by simp)]
  · rcases snoc_cases ls with rfl | ⟨init, s, rfl⟩
    · rw [(parent_root k hp).1, Option.bind_some, if_pos rfl, if_neg (by simp)]
    · rw [(parent_some h hp k (by omega)).1, Option.bind_some, if_pos rfl, if_pos rfl, in_some h hp (ks := init) h.left rfl k (by omega), Option.bind_some,
        if_pos (by simp), in_some (p := B (text init)) (ls := init) h.left rfl h hp k (by omega), Option.bind_some]
      congr 1
      have : decide (init ++ [s] <+: init) = false := by
        apply decide_eq_false
        intro hx
        have := hx.length_le
        simp at this
        omega
      rw [this]; rfl
theorem in1 (k : Nat) (hk : 103 ≤ k) (p q s : ByteArray) : cantonlaw01_PathIn.j1 k p q s true false = some true := by
  obtain ⟨k, rfl⟩ : ∃ m, k = m + 1 := ⟨k - 1, by omega⟩
  rw [cantonlaw01_PathIn.j1, if_neg (by simp)]
  simp only [in_is _ _ k (show 1 ≤ k by omega), Option.bind_some]
  have h2 := in2 k (by omega) p
  have tail : (if isIn p q = true then (if isIn q p = true then cantonlaw01_PathIn.j2 k p true (p.toList != q.toList) else cantonlaw01_PathIn.j2 k p true false) else cantonlaw01_PathIn.j2 k p true false) = some true := by
    by_cases c1 : isIn p q = true
    · rw [if_pos c1]
      by_cases c2 : isIn q p = true
      · rw [if_pos c2]
        have := in_anti p q c1 c2
        subst this
        simpa using h2
      · rw [if_neg c2, h2]
    · rw [if_neg c1, h2]
  by_cases c1 : isIn p q = true
  · rw [if_pos c1]
    by_cases c2 : isIn q s = true
    · rw [if_pos c2, if_pos (in_trans p q s c1 c2)]
      exact tail
    · rw [if_neg c2]
      exact tail
  · rw [if_neg c1]
    exact tail
theorem in0 (k : Nat) (hk : 104 ≤ k) (p q s : ByteArray) (b : Bool) : cantonlaw01_PathIn.j0 k p q s true b = some true := by
  obtain ⟨k, rfl⟩ : ∃ m, k = m + 1 := ⟨k - 1, by omega⟩
  rw [cantonlaw01_PathIn.j0]
  cases b with
  | true => rw [if_pos rfl]
  | false =>
    rw [if_neg (by simp), in_is _ _ k (by omega), Option.bind_some, right_is, Option.bind_some, in_self, if_neg (by simp), in_is _ _ k (by omega), Option.bind_some, Option.bind_some, in_root]
    simpa using in1 k (by omega) p q s
theorem PathIn : cantonlaw01_PathIn.Pure := by
  intro p q s _ _ _
  refine ⟨104, ?_⟩
  unfold cantonlaw01_PathIn.f
  rw [head_true 104 (by omega), Option.bind_some]
  split
  · exact in0 104 (by omega) ..
  · split
    · exact in0 104 (by omega) ..
    · exact in0 104 (by omega) ..
end Go.Proofs.YtopgenipifhjfaaDoor.Pure
