/- Small words for the laws of locks. -/
import Derived.Test.YtclomgbiomojjaaLRef
namespace Go.Proofs.Ytclomgbiomojjaa.LLaw
open Go Go.RowKit Go.Proofs.Ytclomgbiomojjaa.Split Go.Proofs.Ytclomgbiomojjaa.PathF Go.Proofs.Ytclomgbiomojjaa.Q Go.Proofs.Ytclomgbiomojjaa.LTh Go.Proofs.Ytclomgbiomojjaa.LRef Go.Proofs.Ytclomgbiomojjaa.LTake Go.Proofs.Ytclomgbiomojjaa.LHeld Go.Proofs.Ytclomgbiomojjaa.LFree Go.Proofs.Ytclomgbiomojjaa.LRight Go.Proofs.YtclomgbiomojjaaW.PrintWords
open Go.Proofs.Ytclomgbiomojjaa.LRgt (num rightB)
open Go.Proofs.Ytclomgbiomojjaa.LSet (Up ltI)
set_option linter.unusedVariables false

theorem wsucc (i : Nat) (h : i < 1000000000) : wrap64 ((i : Int) + 1) = ((i + 1 : Nat) : Int) := by unfold wrap64; omega
theorem wf_num {n : Int} (h : 0 ≤ n ∧ n ≤ 281474976710656) : (Lit.int .i64 n).wf = true := WalkArith.wf_i64 ⟨by omega, by omega⟩
theorem wf_right {l : List S} (h : RightH l) : l.all wfB = true := List.all_eq_true.2 fun x hx => by
  obtain ⟨_, h1, h2⟩ := (okE_iff x).1 (h.ok x hx)
  unfold wfB
  rw [wf_num h1, wf_num h2]; rfl
theorem size_right {l : List S} (h : RightH l) : ∀ x ∈ l, x.f0.size ≤ 10000 := fun x hx => by
  obtain ⟨h0, _⟩ := (okE_iff x).1 (h.ok x hx)
  unfold isP at h0
  rcases path_cases x.f0 with c | ⟨ls, c, hp⟩
  · rw [c] at h0; cases h0
  · have := size_of c hp; omega
theorem take_f {l : List S} (h : RightH l) {a1 a2 : Int} (h1 : (Lit.int .i64 a1).wf = true) (h2 : (Lit.int .i64 a2).wf = true) {ds : List ByteArray} (hl : l.length + ds.length ≤ 1000) : locks_Take.f l a1 a2 ds = some (takeP l a1 a2 ds) := by
  unfold locks_Take.f
  rw [if_pos ⟨hl, wf_right h, h1, h2⟩]
theorem held_f {l : List S} (hl : l.length ≤ 1000000) (d : ByteArray) : locks_Held.f l d = some (heldT l d, heldB l d) := by
  unfold locks_Held.f; rw [if_pos hl]
theorem free_f {l : List S} (hl : l.length ≤ 1000000) (t : Int) : locks_Free.f l t = some (freeP l t) := by
  unfold locks_Free.f; rw [if_pos hl]
theorem right_f {l : List S} (h : RightH l) (hl : l.length ≤ 1000) (k : Nat) (hk : 2100000 ≤ k) : cantonref10_Right.f k l = some true := by
  rw [LRef.right_is l hl (size_right h) k hk, (right_iff l).2 h]
theorem insA_len {l : List S} {a1 a2 : Int} {ds : List ByteArray} : (LTk0.insAll a1 a2 l ds).length ≤ l.length + ds.length := LTk0.insAll_len a1 a2 ds l
/-- what is taken, taken once more, or a part of it -/
theorem again {l m : List S} {a1 a2 : Int} {ds ds' : List ByteArray} (h : Ok l a1 a2 ds) (hf : ∀ x ∈ l, x.f0 ∈ ds → x.f1 = a1) (hm : InsA l a1 a2 ds m) (hr : RightH m) (hsub : ∀ d ∈ ds', d ∈ ds) : takeP m a1 a2 ds' = (m, [], true) := by
  have hin : ∀ x ∈ m, x.f0 ∈ ds → x.f1 = a1 := fun x hx hd => by
    rcases (hm.mem x).1 hx with g | g
    · exact hf x g hd
    · exact g.2.1
  have hok : Ok m a1 a2 ds' := ⟨hr, h.n1, h.n2, fun d hd => h.dirs d (hsub d hd), fun x hx e => by
    rcases (hm.mem x).1 hx with g | g
    · exact h.own x g e
    · exact g.2.2.1⟩
  have hall : ∀ d ∈ ds, ∃ x ∈ m, x.f0 = d := fun d hd => by
    by_cases c : ∃ x ∈ l, x.f0 = d
    · obtain ⟨x, hx, e⟩ := c
      exact ⟨x, (hm.mem x).2 (.inl hx), e⟩
    · exact ⟨⟨d, a1, a2⟩, (hm.mem _).2 (.inr ⟨hd, rfl, rfl, fun x hx e => c ⟨x, hx, e⟩⟩), rfl⟩
  rcases took m a1 a2 ds' with ⟨g, _⟩ | ⟨g, g2, m', e, hm', _⟩ | ⟨g, x, hx, hd, hn, _⟩
  · exact absurd hok g
  · rw [e]
    have : m' = m := up_eq hm'.up hr.up (fun y => by
      rw [hm'.mem]
      refine ⟨fun h => h.elim id fun ⟨k1, _, _, k4⟩ => ?_, .inl⟩
      obtain ⟨x, hx, e⟩ := hall _ (hsub _ k1)
      exact absurd e (k4 x hx))
    rw [this]
  · exact absurd (hin x hx (hsub _ hd)) hn
/-- what Take answers, and what its length is -/
theorem got_len {l m : List S} {a1 a2 : Int} {ds : List ByteArray} {W : List Int} (e : takeP l a1 a2 ds = (m, W, true)) : m.length ≤ l.length + ds.length := by
  unfold takeP at e
  split at e
  · cases e
  · split at e
    · cases e; exact insA_len
    · cases e
end Go.Proofs.Ytclomgbiomojjaa.LLaw
