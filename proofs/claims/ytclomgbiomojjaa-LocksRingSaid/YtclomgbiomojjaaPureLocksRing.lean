/- LocksRing, without memory: of two transactions each of which holds a directory that the other one asks, just one is wounded: the younger one; once it let go, the other one takes all. -/
import Derived.Test.YtclomgbiomojjaaLRef
import Derived.Test.YtclomgbiomojjaaAskLocksRing
/- Small words for the laws of locks. -/
namespace Go.Proofs.Ytclomgbiomojjaa.LLaw
open Go Go.RowKit Go.Proofs.Ytclomgbiomojjaa.Split Go.Proofs.Ytclomgbiomojjaa.PathF Go.Proofs.Ytclomgbiomojjaa.Q Go.Proofs.Ytclomgbiomojjaa.LTh Go.Proofs.Ytclomgbiomojjaa.LRef Go.Proofs.Ytclomgbiomojjaa.LTake Go.Proofs.Ytclomgbiomojjaa.LHeld Go.Proofs.Ytclomgbiomojjaa.LFree Go.Proofs.Ytclomgbiomojjaa.LRight Go.Proofs.YtclomgbiomojjaaW.PrintWords
open Go.Proofs.Ytclomgbiomojjaa.LRgt (num rightB)
open Go.Proofs.Ytclomgbiomojjaa.LSet (Up ltI)
set_option linter.unusedVariables false

theorem wsucc (i : Nat) (h : i < 1000000000) : wrap64 ((i : Int) + 1) = ((i + 1 : Nat) : Int) := by unfold wrap64; omega
theorem wf_num {n : Int} (h : 0 ≤ n ∧ n ≤ 281474976710656) : (Lit.int .i64 n).wf = true := WalkArith.wf_i64 ⟨by omega, by omega⟩
theorem wf_right {l : List S} (h : RightH l) : l.all wfB = true := List.all_eq_true.2 fun x hx => by
  obtain ⟨_, h1, h2⟩ := (okE_iff x).1 (h.ok x hx)
  unfold wfB
  rw [wf_num h1, wf_num h2]; rfl
theorem size_right {l : List S} (h : RightH l) : ∀ x ∈ l, x.f0.size ≤ 10000 := fun x hx => by
  obtain ⟨h0, _⟩ := (okE_iff x).1 (h.ok x hx)
  unfold isP at h0
  rcases path_cases x.f0 with c | ⟨ls, c, hp⟩
  · rw [c] at h0; cases h0
  · have := size_of c hp; omega
theorem take_f {l : List S} (h : RightH l) {a1 a2 : Int} (h1 : (Lit.int .i64 a1).wf = true) (h2 : (Lit.int .i64 a2).wf = true) {ds : List ByteArray} (hl : l.length + ds.length ≤ 1000) : locks_Take.f l a1 a2 ds = some (takeP l a1 a2 ds) := by
  unfold locks_Take.f
  rw [if_pos ⟨hl, wf_right h, h1, h2⟩]
theorem held_f {l : List S} (hl : l.length ≤ 1000000) (d : ByteArray) : locks_Held.f l d = some (heldT l d, heldB l d) := by
  unfold locks_Held.f; rw [if_pos hl]
theorem free_f {l : List S} (hl : l.length ≤ 1000000) (t : Int) : locks_Free.f l t = some (freeP l t) := by
  unfold locks_Free.f; rw [if_pos hl]
theorem right_f {l : List S} (h : RightH l) (hl : l.length ≤ 1000) (k : Nat) (hk : 2100000 ≤ k) : cantonref10_Right.f k l = some true := by
  rw [LRef.right_is l hl (size_right h) k hk, (right_iff l).2 h]
theorem insA_len {l : List S} {a1 a2 : Int} {ds : List ByteArray} : (LTk0.insAll a1 a2 l ds).length ≤ l.length + ds.length := LTk0.insAll_len a1 a2 ds l
/-- what is taken, taken once more, or a part of it -/
theorem again {l m : List S} {a1 a2 : Int} {ds ds' : List ByteArray} (h : Ok l a1 a2 ds) (hf : ∀ x ∈ l, x.f0 ∈ ds → x.f1 = a1) (hm : InsA l a1 a2 ds m) (hr : RightH m) (hsub : ∀ d ∈ ds', d ∈ ds) : takeP m a1 a2 ds' = (m, [], true) := by
  have hin : ∀ x ∈ m, x.f0 ∈ ds → x.f1 = a1 := fun x hx hd => by
    rcases (hm.mem x).1 hx with g | g
    · exact hf x g hd
    · exact g.2.1
  have hok : Ok m a1 a2 ds' := ⟨hr, h.n1, h.n2, fun d hd => h.dirs d (hsub d hd), fun x hx e => by
    rcases (hm.mem x).1 hx with g | g
    · exact h.own x g e
    · exact g.2.2.1⟩
  have hall : ∀ d ∈ ds, ∃ x ∈ m, x.f0 = d := fun d hd => by
    by_cases c : ∃ x ∈ l, x.f0 = d
    · obtain ⟨x, hx, e⟩ := c
      exact ⟨x, (hm.mem x).2 (.inl hx), e⟩
    · exact ⟨⟨d, a1, a2⟩, (hm.mem _).2 (.inr ⟨hd, rfl, rfl, fun x hx e => c ⟨x, hx, e⟩⟩), rfl⟩
  rcases took m a1 a2 ds' with ⟨g, _⟩ | ⟨g, g2, m', e, hm', _⟩ | ⟨g, x, hx, hd, hn, _⟩
  · exact absurd hok g
  · rw [e]
    have : m' = m := up_eq hm'.up hr.up (fun y => by
      rw [hm'.mem]
      refine ⟨fun h => h.elim id fun ⟨k1, _, _, k4⟩ => ?_, .inl⟩
      obtain ⟨x, hx, e⟩ := hall _ (hsub _ k1)
      exact absurd e (k4 x hx))
    rw [this]
  · exact absurd (hin x hx (hsub _ hd)) hn
/-- what Take answers, and what its length is -/
theorem got_len {l m : List S} {a1 a2 : Int} {ds : List ByteArray} {W : List Int} (e : takeP l a1 a2 ds = (m, W, true)) : m.length ≤ l.length + ds.length := by
  unfold takeP at e
  split at e
  · cases e
  · split at e
    · cases e; exact insA_len
    · cases e
end Go.Proofs.Ytclomgbiomojjaa.LLaw
namespace Go.Proofs.Ytclomgbiomojjaa.Pure
open Go Go.RowKit Go.Proofs.Ytclomgbiomojjaa.Split Go.Proofs.Ytclomgbiomojjaa.Q Go.Proofs.Ytclomgbiomojjaa.PathF Go.Proofs.Ytclomgbiomojjaa.LTh Go.Proofs.Ytclomgbiomojjaa.LRef Go.Proofs.Ytclomgbiomojjaa.LLaw Go.Proofs.Ytclomgbiomojjaa.LTake Go.Proofs.Ytclomgbiomojjaa.LHeld Go.Proofs.YtclomgbiomojjaaW.PrintWords Go.Proofs.YtclomgbiomojjaaW.PrintLast Go.Proofs.Ytclomgbiomojjaa.OpensLocksRing
open Go.Proofs.Ytclomgbiomojjaa.LRgt (rightB)
open Go.Proofs.Ytclomgbiomojjaa.LSet (Up ltI ordI)
set_option linter.unusedVariables false

theorem u32_inv {n : Int} (h : (Lit.int .u32 n).wf = true) : 0 ≤ n ∧ n ≤ 4294967295 := by
  simp [Lit.wf, IntKind.min, IntKind.max, IntKind.signed, IntKind.bits] at h
  omega
theorem one_of {W : List Int} (hu : Up ltI W) {b : Int} {c : Prop} (h : ∀ t, t ∈ W ↔ c ∧ t = b) : (c → W = [b]) ∧ (¬ c → W = []) := by
  constructor
  · intro hc
    exact LSet.up_eq ordI hu (by simp [LSet.Up]) (fun t => by rw [h]; simp [hc])
  · intro hc
    exact LSet.up_eq ordI hu List.Pairwise.nil (fun t => by rw [h]; simp [hc])
/-- what the two hold -/
structure Two (a b x y : Int) (one two : List ByteArray) (l m : List S) : Prop where
  ok1 : Ok [] a x one
  ok2 : Ok l b y two
  ml : ∀ h, h ∈ l ↔ h.f0 ∈ one ∧ h.f1 = a ∧ h.f2 = x
  mm : ∀ h, h ∈ m ↔ h ∈ l ∨ (h.f0 ∈ two ∧ h.f1 = b ∧ h.f2 = y)
  apart : ∀ d ∈ one, d ∉ two
  rl : RightH l
  rm : RightH m
theorem two_is {a b x y : Int} {one two : List ByteArray} (hab : a ≠ b) {l m : List S} {W V : List Int} (h1 : takeP [] a x one = (l, W, true)) (h2 : takeP l b y two = (m, V, true)) : Two a b x y one two l m := by
  rcases took [] a x one with ⟨g, e⟩ | ⟨g, gf, m1, e, hm, hr⟩ | ⟨g, z, hz, _⟩
  · rw [h1] at e; cases e
  · rw [h1] at e
    cases e
    rcases took l b y two with ⟨k, e⟩ | ⟨k, kf, m2, e, hm2, hr2⟩ | ⟨k, z, hz, hdz, hnz, W2, e, _⟩
    · rw [h2] at e; cases e
    · rw [h2] at e
      cases e
      have hml : ∀ h, h ∈ l ↔ h.f0 ∈ one ∧ h.f1 = a ∧ h.f2 = x := fun h => by rw [hm.mem]; simp
      have hap : ∀ d ∈ one, d ∉ two := fun d hd hd2 => hab (kf ⟨d, a, x⟩ ((hml _).2 ⟨hd, rfl, rfl⟩) hd2)
      refine ⟨g, k, hml, fun h => ?_, hap, hr, hr2⟩
      rw [hm2.mem]
      constructor
      · rintro (h | ⟨q1, q2, q3, _⟩)
        · exact .inl h
        · exact .inr ⟨q1, q2, q3⟩
      · rintro (h | ⟨q1, q2, q3⟩)
        · exact .inl h
        · exact .inr ⟨q1, q2, q3, fun z hz e => hap z.f0 ((hml z).1 hz).1 (by rw [e]; exact q1)⟩
    · rw [h2] at e; cases e
  · cases hz
theorem ring1 {a b x y : Int} {one two : List ByteArray} (hab : a ≠ b) {l m : List S} (T : Two a b x y one two l m) (hne : two ≠ []) : ∃ W, takeP m a x two = (m, W, false) ∧ ((x < y ∨ (y = x ∧ a < b)) → W = [b]) ∧ (¬ (x < y ∨ (y = x ∧ a < b)) → W = []) := by
  have hok : Ok m a x two := ⟨T.rm, T.ok1.n1, T.ok1.n2, T.ok2.dirs, fun h hh e => by
    rcases (T.mm h).1 hh with g | g
    · exact ((T.ml h).1 g).2.2
    · exact absurd (e.symm.trans g.2.1) hab⟩
  have hin : ∀ h ∈ m, h.f0 ∈ two → h.f1 = b ∧ h.f2 = y := fun h hh hd => by
    rcases (T.mm h).1 hh with g | g
    · exact absurd hd (T.apart _ ((T.ml h).1 g).1)
    · exact g.2
  have hsome : ∀ d ∈ two, (⟨d, b, y⟩ : S) ∈ m := fun d hd => (T.mm _).2 (.inr ⟨hd, rfl, rfl⟩)
  obtain ⟨d0, hd0⟩ := List.exists_mem_of_ne_nil two hne
  rcases took m a x two with ⟨g, _⟩ | ⟨g, gf, _⟩ | ⟨g, z, hz, hdz, hnz, W, e, hu, hW⟩
  · exact absurd hok g
  · exact absurd (gf _ (hsome d0 hd0) hd0) (fun e => hab e.symm)
  · refine ⟨W, e, one_of hu (fun t => ?_)⟩
    rw [hW]
    constructor
    · rintro ⟨h, hh, hd, hn, hnew, rfl⟩
      obtain ⟨e1, e2⟩ := hin h hh hd
      rw [e1, e2] at hnew
      exact ⟨hnew, e1⟩
    · rintro ⟨hnew, rfl⟩
      exact ⟨⟨d0, t, y⟩, hsome d0 hd0, hd0, fun e => hab e.symm, hnew, rfl⟩
theorem ring2 {a b x y : Int} {one two : List ByteArray} (hab : a ≠ b) {l m : List S} (T : Two a b x y one two l m) (hne : one ≠ []) : ∃ W, takeP m b y one = (m, W, false) ∧ ((y < x ∨ (x = y ∧ b < a)) → W = [a]) ∧ (¬ (y < x ∨ (x = y ∧ b < a)) → W = []) := by
  have hok : Ok m b y one := ⟨T.rm, T.ok2.n1, T.ok2.n2, T.ok1.dirs, fun h hh e => by
    rcases (T.mm h).1 hh with g | g
    · exact absurd (((T.ml h).1 g).2.1.symm.trans e) hab
    · exact g.2.2⟩
  have hin : ∀ h ∈ m, h.f0 ∈ one → h.f1 = a ∧ h.f2 = x := fun h hh hd => by
    rcases (T.mm h).1 hh with g | g
    · exact ((T.ml h).1 g).2
    · exact absurd g.1 (T.apart _ hd)
  have hsome : ∀ d ∈ one, (⟨d, a, x⟩ : S) ∈ m := fun d hd => (T.mm _).2 (.inl ((T.ml _).2 ⟨hd, rfl, rfl⟩))
  obtain ⟨d0, hd0⟩ := List.exists_mem_of_ne_nil one hne
  rcases took m b y one with ⟨g, _⟩ | ⟨g, gf, _⟩ | ⟨g, z, hz, hdz, hnz, W, e, hu, hW⟩
  · exact absurd hok g
  · exact absurd (gf _ (hsome d0 hd0) hd0) hab
  · refine ⟨W, e, one_of hu (fun t => ?_)⟩
    rw [hW]
    constructor
    · rintro ⟨h, hh, hd, hn, hnew, rfl⟩
      obtain ⟨e1, e2⟩ := hin h hh hd
      rw [e1, e2] at hnew
      exact ⟨hnew, e1⟩
    · rintro ⟨hnew, rfl⟩
      exact ⟨⟨d0, t, x⟩, hsome d0 hd0, hd0, hab, hnew, rfl⟩
theorem ring3 {a b x y : Int} {one two : List ByteArray} (hab : a ≠ b) {l m : List S} (T : Two a b x y one two l m) : ∃ q, takeP (freeP m b) a x two = (q, [], true) := by
  have hmem : ∀ h ∈ freeP m b, h.f0 ∈ one ∧ h.f1 = a ∧ h.f2 = x := fun h hh => by
    obtain ⟨h1, h2⟩ := mem_free.1 hh
    rcases (T.mm h).1 h1 with g | g
    · exact (T.ml h).1 g
    · exact absurd g.2.1 h2
  have hok : Ok (freeP m b) a x two := ⟨right_free T.rm b, T.ok1.n1, T.ok1.n2, T.ok2.dirs, fun h hh _ => (hmem h hh).2.2⟩
  rcases took (freeP m b) a x two with ⟨g, _⟩ | ⟨g, gf, q, e, _⟩ | ⟨g, z, hz, hdz, hnz, _⟩
  · exact absurd hok g
  · exact ⟨q, e⟩
  · exact absurd (hmem z hz).2.1 hnz
theorem ring4 {a b x y : Int} {one two : List ByteArray} (hab : a ≠ b) {l m : List S} (T : Two a b x y one two l m) : ∃ q, takeP (freeP m a) b y one = (q, [], true) := by
  have hmem : ∀ h ∈ freeP m a, h.f0 ∈ two ∧ h.f1 = b ∧ h.f2 = y := fun h hh => by
    obtain ⟨h1, h2⟩ := mem_free.1 hh
    rcases (T.mm h).1 h1 with g | g
    · exact absurd ((T.ml h).1 g).2.1 h2
    · exact g
  have hok : Ok (freeP m a) b y one := ⟨right_free T.rm a, T.ok2.n1, T.ok2.n2, T.ok1.dirs, fun h hh _ => (hmem h hh).2.2⟩
  rcases took (freeP m a) b y one with ⟨g, _⟩ | ⟨g, gf, q, e, _⟩ | ⟨g, z, hz, hdz, hnz, _⟩
  · exact absurd hok g
  · exact ⟨q, e⟩
  · exact absurd (hmem z hz).2.1 hnz
theorem free_len (l : List S) (t : Int) : (freeP l t).length ≤ l.length := List.length_filter_le _ _
theorem LocksRing : OpensLocksRing.Pure := by
  intro a b x y one two ha hb hx hy h1 h2
  obtain ⟨ho0, ho1, how⟩ := h1
  obtain ⟨ht0, ht1, htw⟩ := h2
  replace ha := u32_inv ha
  replace hb := u32_inv hb
  replace hx := u32_inv hx
  replace hy := u32_inv hy
  have wa : wrap64 a = a := by unfold wrap64; omega
  have wb : wrap64 b = b := by unfold wrap64; omega
  have wx : wrap64 x = x := by unfold wrap64; omega
  have wy : wrap64 y = y := by unfold wrap64; omega
  have fa : (Lit.int .i64 a).wf = true := wf_num (by omega)
  have fb : (Lit.int .i64 b).wf = true := wf_num (by omega)
  have fx : (Lit.int .i64 x).wf = true := wf_num (by omega)
  have fy : (Lit.int .i64 y).wf = true := wf_num (by omega)
  obtain ⟨K, hK⟩ : ∃ K, K = one.length + two.length + 3000000 := ⟨_, rfl⟩
  refine ⟨K + 1 + 1 + 1 + 1, ?_⟩
  unfold cantonlaw10_LocksRing.f
  rw [cantonlaw10_head.is, Option.bind_some]
  obtain ⟨q1, hq1, hg1⟩ := great_is [] one (by simp) (by omega) (by simp) (fun x hx => by have := how x hx; omega) (K + 1 + 1 + 1 + 1) (by simp; omega)
  obtain ⟨q2, hq2, hg2⟩ := great_is [] two (by simp) (by omega) (by simp) (fun x hx => by have := htw x hx; omega) (K + 1 + 1 + 1 + 1) (by simp; omega)
  rw [hq1, Option.bind_some]
  have stop : cantonlaw10_LocksRing.j0 (K + 1 + 1 + 1 + 1) a b x y one two true true = some true := by rw [cantonlaw10_LocksRing.j0, if_pos rfl]
  by_cases c1 : q1 = true
  · rw [if_pos c1, stop]
  rw [if_neg c1, hq2, Option.bind_some]
  by_cases c2 : q2 = true
  · rw [if_pos c2, stop]
  rw [if_neg c2]
  by_cases c3 : a = b
  · rw [if_pos c3, stop]
  rw [if_neg c3]
  by_cases c4 : (one.length : Int) = 0
  · rw [if_pos c4, stop]
  rw [if_neg c4]
  by_cases c5 : (two.length : Int) = 0
  · rw [show ((two.length : Int) == 0) = true from beq_iff_eq.2 c5, stop]
  rw [show ((two.length : Int) == 0) = false from beq_eq_false_iff_ne.2 c5]
  have hone : one ≠ [] := fun e => c4 (by rw [e]; rfl)
  have htwo : two ≠ [] := fun e => c5 (by rw [e]; rfl)
  obtain ⟨_, g1, _, _⟩ := hg1 (by simpa using c1)
  obtain ⟨_, g2, _, _⟩ := hg2 (by simpa using c2)
  rw [cantonlaw10_LocksRing.j0, if_neg (by simp), wa, wb, wx, wy, take_f right_nil fa fx (by simp; omega), Option.bind_some]
  obtain ⟨⟨l, W, p⟩, hl⟩ : ∃ r, takeP [] a x one = r := ⟨_, rfl⟩
  rw [hl]
  dsimp only
  have hrl : RightH l ∧ l.length ≤ 200 := by
    rcases took [] a x one with ⟨g, e⟩ | ⟨g, gf, m1, e, hm, hr⟩ | ⟨g, z, hz, _⟩
    · rw [hl] at e; cases e; exact ⟨right_nil, by simp⟩
    · rw [hl] at e; cases e
      have := got_len hl
      exact ⟨hr, by simpa using Nat.le_trans this (by simpa using g1)⟩
    · cases hz
  rw [take_f hrl.1 fb fy (by omega), Option.bind_some]
  obtain ⟨⟨m, V, q⟩, hm⟩ : ∃ r, takeP l b y two = r := ⟨_, rfl⟩
  rw [hm]
  dsimp only
  have stop1 : cantonlaw10_LocksRing.j1 (K + 1 + 1 + 1) a b x y one two true m true = some true := by rw [cantonlaw10_LocksRing.j1, if_pos rfl]
  cases p with
  | false => rw [if_neg (by simp), stop1]
  | true =>
  cases q with
  | false => rw [if_pos rfl, Bool.not_false, stop1]
  | true =>
  have T := two_is c3 hl hm
  have hml := got_len hm
  have hm1 := free_len m a
  have hm2 := free_len m b
  obtain ⟨u, hu, hu1, hu2⟩ := ring1 c3 T htwo
  obtain ⟨v, hv, hv1, hv2⟩ := ring2 c3 T hone
  rw [if_pos rfl, Bool.not_true, cantonlaw10_LocksRing.j1, if_neg (by simp), wa, wb, wx, wy, take_f T.rm fa fx (by omega), Option.bind_some, take_f T.rm fb fy (by omega), Option.bind_some, hu, hv]
  dsimp only
  have older : ∀ B : Bool, (B = true ↔ (x < y ∨ (y = x ∧ a < b))) → cantonlaw10_LocksRing.j2 (K + 1 + 1) a b x y one two true m u false v false B = some true := by
    intro B hB
    rw [cantonlaw10_LocksRing.j2, if_neg (by simp), if_neg (by simp)]
    cases B with
    | true =>
      have ho := hB.1 rfl
      have eu := hu1 ho
      have ev := hv2 (by omega)
      obtain ⟨q, hq⟩ := ring3 c3 T
      subst eu ev
      rw [if_neg (by simp), if_neg (by simp)]
      have : ((wrap64 (((([b] : List Int).length : Nat) : Int) + ((([] : List Int).length : Nat) : Int))) != 1) = false := by simp only [List.length_cons, List.length_nil]; unfold wrap64; decide
      rw [this, cantonlaw10_LocksRing.j3, if_neg (by simp), if_pos rfl, wa, wb, wx, free_f (by omega), Option.bind_some, take_f (right_free T.rm b) fa fx (by omega), Option.bind_some, hq, if_pos rfl, if_pos rfl, if_pos (by simp)]
      simp [Go.Proofs.YtclomgbiomojjaaW.PrintWords.rd]
    | false =>
      have ho : ¬ (x < y ∨ (y = x ∧ a < b)) := fun h => by have := hB.2 h; cases this
      have eu := hu2 ho
      have ev := hv1 (by omega)
      obtain ⟨q, hq⟩ := ring4 c3 T
      subst eu ev
      rw [if_neg (by simp), if_neg (by simp)]
      have : ((wrap64 (((([] : List Int).length : Nat) : Int) + ((([a] : List Int).length : Nat) : Int))) != 1) = false := by simp only [List.length_cons, List.length_nil]; unfold wrap64; decide
      rw [this, cantonlaw10_LocksRing.j3, if_neg (by simp), if_neg (by simp), wa, wb, wy, free_f (by omega), Option.bind_some, take_f (right_free T.rm a) fb fy (by omega), Option.bind_some, hq, if_pos rfl, if_pos rfl, if_pos (by simp)]
      simp [Go.Proofs.YtclomgbiomojjaaW.PrintWords.rd]
  by_cases d1 : x < y
  · rw [if_pos d1]; exact older true (by simp [d1])
  · rw [if_neg d1]
    by_cases d2 : x = y
    · rw [if_pos d2]; exact older _ (by rw [decide_eq_true_eq]; omega)
    · rw [if_neg d2]; exact older false (by simp; omega)
end Go.Proofs.Ytclomgbiomojjaa.Pure
