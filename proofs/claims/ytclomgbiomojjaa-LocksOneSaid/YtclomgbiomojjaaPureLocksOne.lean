/- LocksOne, without memory: who takes directories holds all of them, and what it held, and all others what they held; who does not holds nothing more. -/
import Derived.Test.YtclomgbiomojjaaLRef
import Derived.Test.YtclomgbiomojjaaAskLocksOne
/- Small words for the laws of locks. -/
namespace Go.Proofs.Ytclomgbiomojjaa.LLaw
open Go Go.RowKit Go.Proofs.Ytclomgbiomojjaa.Split Go.Proofs.Ytclomgbiomojjaa.PathF Go.Proofs.Ytclomgbiomojjaa.Q Go.Proofs.Ytclomgbiomojjaa.LTh Go.Proofs.Ytclomgbiomojjaa.LRef Go.Proofs.Ytclomgbiomojjaa.LTake Go.Proofs.Ytclomgbiomojjaa.LHeld Go.Proofs.Ytclomgbiomojjaa.LFree Go.Proofs.Ytclomgbiomojjaa.LRight Go.Proofs.YtclomgbiomojjaaW.PrintWords
open Go.Proofs.Ytclomgbiomojjaa.LRgt (num rightB)
open Go.Proofs.Ytclomgbiomojjaa.LSet (Up ltI)
set_option linter.unusedVariables false

theorem wsucc (i : Nat) (h : i < 1000000000) : wrap64 ((i : Int) + 1) = ((i + 1 : Nat) : Int) := by unfold wrap64; omega
theorem wf_num {n : Int} (h : 0 ≤ n ∧ n ≤ 281474976710656) : (Lit.int .i64 n).wf = true := WalkArith.wf_i64 ⟨by omega, by omega⟩
theorem wf_right {l : List S} (h : RightH l) : l.all wfB = true := List.all_eq_true.2 fun x hx => by
  obtain ⟨_, h1, h2⟩ := (okE_iff x).1 (h.ok x hx)
  unfold wfB
  rw [wf_num h1, wf_num h2]; rfl
theorem size_right {l : List S} (h : RightH l) : ∀ x ∈ l, x.f0.size ≤ 10000 := fun x hx => by
  obtain ⟨h0, _⟩ := (okE_iff x).1 (h.ok x hx)
  unfold isP at h0
  rcases path_cases x.f0 with c | ⟨ls, c, hp⟩
  · rw [c] at h0; cases h0
  · have := size_of c hp; omega
theorem take_f {l : List S} (h : RightH l) {a1 a2 : Int} (h1 : (Lit.int .i64 a1).wf = true) (h2 : (Lit.int .i64 a2).wf = true) {ds : List ByteArray} (hl : l.length + ds.length ≤ 1000) : locks_Take.f l a1 a2 ds = some (takeP l a1 a2 ds) := by
  unfold locks_Take.f
  rw [if_pos ⟨hl, wf_right h, h1, h2⟩]
theorem held_f {l : List S} (hl : l.length ≤ 1000000) (d : ByteArray) : locks_Held.f l d = some (heldT l d, heldB l d) := by
  unfold locks_Held.f; rw [if_pos hl]
theorem free_f {l : List S} (hl : l.length ≤ 1000000) (t : Int) : locks_Free.f l t = some (freeP l t) := by
  unfold locks_Free.f; rw [if_pos hl]
theorem right_f {l : List S} (h : RightH l) (hl : l.length ≤ 1000) (k : Nat) (hk : 2100000 ≤ k) : cantonref10_Right.f k l = some true := by
  rw [LRef.right_is l hl (size_right h) k hk, (right_iff l).2 h]
theorem insA_len {l : List S} {a1 a2 : Int} {ds : List ByteArray} : (LTk0.insAll a1 a2 l ds).length ≤ l.length + ds.length := LTk0.insAll_len a1 a2 ds l
/-- what is taken, taken once more, or a part of it -/
theorem again {l m : List S} {a1 a2 : Int} {ds ds' : List ByteArray} (h : Ok l a1 a2 ds) (hf : ∀ x ∈ l, x.f0 ∈ ds → x.f1 = a1) (hm : InsA l a1 a2 ds m) (hr : RightH m) (hsub : ∀ d ∈ ds', d ∈ ds) : takeP m a1 a2 ds' = (m, [], true) := by
  have hin : ∀ x ∈ m, x.f0 ∈ ds → x.f1 = a1 := fun x hx hd => by
    rcases (hm.mem x).1 hx with g | g
    · exact hf x g hd
    · exact g.2.1
  have hok : Ok m a1 a2 ds' := ⟨hr, h.n1, h.n2, fun d hd => h.dirs d (hsub d hd), fun x hx e => by
    rcases (hm.mem x).1 hx with g | g
    · exact h.own x g e
    · exact g.2.2.1⟩
  have hall : ∀ d ∈ ds, ∃ x ∈ m, x.f0 = d := fun d hd => by
    by_cases c : ∃ x ∈ l, x.f0 = d
    · obtain ⟨x, hx, e⟩ := c
      exact ⟨x, (hm.mem x).2 (.inl hx), e⟩
    · exact ⟨⟨d, a1, a2⟩, (hm.mem _).2 (.inr ⟨hd, rfl, rfl, fun x hx e => c ⟨x, hx, e⟩⟩), rfl⟩
  rcases took m a1 a2 ds' with ⟨g, _⟩ | ⟨g, g2, m', e, hm', _⟩ | ⟨g, x, hx, hd, hn, _⟩
  · exact absurd hok g
  · rw [e]
    have : m' = m := up_eq hm'.up hr.up (fun y => by
      rw [hm'.mem]
      refine ⟨fun h => h.elim id fun ⟨k1, _, _, k4⟩ => ?_, .inl⟩
      obtain ⟨x, hx, e⟩ := hall _ (hsub _ k1)
      exact absurd e (k4 x hx))
    rw [this]
  · exact absurd (hin x hx (hsub _ hd)) hn
/-- what Take answers, and what its length is -/
theorem got_len {l m : List S} {a1 a2 : Int} {ds : List ByteArray} {W : List Int} (e : takeP l a1 a2 ds = (m, W, true)) : m.length ≤ l.length + ds.length := by
  unfold takeP at e
  split at e
  · cases e
  · split at e
    · cases e; exact insA_len
    · cases e
end Go.Proofs.Ytclomgbiomojjaa.LLaw
namespace Go.Proofs.Ytclomgbiomojjaa.Pure
open Go Go.RowKit Go.Proofs.Ytclomgbiomojjaa.Q Go.Proofs.Ytclomgbiomojjaa.PathF Go.Proofs.Ytclomgbiomojjaa.LTh Go.Proofs.Ytclomgbiomojjaa.LRef Go.Proofs.Ytclomgbiomojjaa.LLaw Go.Proofs.Ytclomgbiomojjaa.LTake Go.Proofs.Ytclomgbiomojjaa.LHeld Go.Proofs.YtclomgbiomojjaaW.PrintWords Go.Proofs.YtclomgbiomojjaaW.PrintLast Go.Proofs.Ytclomgbiomojjaa.OpensLocksOne
open Go.Proofs.Ytclomgbiomojjaa.LRgt (rightB)
set_option linter.unusedVariables false

theorem one2 (l : List S) (a1 a2 : Int) (ds : List ByteArray) (m : List S) (hds : ds.length ≤ 1000) (hml : m.length ≤ 1000) (i : Nat) (hi : i < m.length) (t : Int) (on : Bool)
    (hc : on = true → t = (rd m (i : Int)).f1) (hc2 : on = false → (rd m (i : Int)).f0 ∈ ds ∧ (rd m (i : Int)).f1 = a1 ∧ (rd m (i : Int)).f2 = a2) : ∀ (n j k : Nat) (asked : Bool), j + n = ds.length → n < k →
    (∀ k2, k ≤ k2 + n + 1 → cantonlaw10_LocksOne.l1 k2 l a1 a2 ds true m ((i + 1 : Nat) : Int) = some true) → (asked = true ∨ ∀ d ∈ ds, d = (rd m (i : Int)).f0 → d ∈ ds.drop j) →
    cantonlaw10_LocksOne.l2 k l a1 a2 ds true m (i : Int) t on asked (j : Int) = some true
  | n, j, 0, _, _, hk, _, _ => absurd hk (by omega)
  | 0, j, k + 1, asked, h, hk, hn, ha => by
    have hw := wsucc i (by omega)
    rw [cantonlaw10_LocksOne.l2, if_neg (by omega)]
    show (if on = true then (if 0 ≤ (i : Int) then (if (i : Int) < (m.length : Int) then (if t = (rd m (i : Int)).f1 then _ else _) else _) else _) else (if asked = true then (if 0 ≤ (i : Int) then (if (i : Int) < (m.length : Int) then (if (rd m (i : Int)).f1 = a1 then (if (rd m (i : Int)).f2 = a2 then _ else _) else _) else _) else _) else _)) = _
    cases on with
    | true => rw [if_pos rfl, if_pos (by omega), if_pos (by omega), if_pos (hc rfl), hw, hn k (by omega)]
    | false =>
      obtain ⟨g1, g2, g3⟩ := hc2 rfl
      have hask : asked = true := ha.elim id fun h2 => by
        have := h2 _ g1 rfl
        rw [List.drop_eq_nil_of_le (by omega)] at this; cases this
      rw [if_neg (by simp), if_pos hask, if_pos (by omega), if_pos (by omega), if_pos g2, if_pos g3, hw, hn k (by omega)]
  | n + 1, j, k + 1, asked, h, hk, hn, ha => by
    have hj : j < ds.length := by omega
    have hw := wsucc j (by omega)
    rw [cantonlaw10_LocksOne.l2, if_pos (by omega), hw]
    cases asked with
    | true =>
      rw [if_pos rfl]
      exact one2 l a1 a2 ds m hds hml i hi t on hc hc2 n (j + 1) k true (by omega) (by omega) (fun k2 h2 => hn k2 (by omega)) (.inl rfl)
    | false =>
      rw [if_neg (by simp), if_pos (by omega), if_pos (by omega), if_pos (by omega), show rdOf ByteArray.empty ds (j : Int) = ds[j] from LTk0.rdS ds j hj]
      refine one2 l a1 a2 ds m hds hml i hi t on hc hc2 n (j + 1) k _ (by omega) (by omega) (fun k2 h2 => hn k2 (by omega)) ?_
      by_cases c : ds[j] = (rd m (i : Int)).f0
      · left; show (ds[j].toList == (rd m (i : Int)).f0.toList) = true; rw [c]; simp
      · right
        intro d hd e
        have := (ha.resolve_left (by simp)) d hd e
        rw [List.drop_eq_getElem_cons hj] at this
        rcases List.mem_cons.1 this with e2 | e2
        · exact absurd (e2.symm.trans e) c
        · exact e2
theorem one1 (l : List S) (a1 a2 : Int) (ds : List ByteArray) (m : List S) (hds : ds.length ≤ 1000) (hml : m.length ≤ 1000) (hll : l.length ≤ m.length)
    (hc : ∀ i : Nat, i < m.length → (heldB l (rd m (i : Int)).f0 = true → heldT l (rd m (i : Int)).f0 = (rd m (i : Int)).f1) ∧ (heldB l (rd m (i : Int)).f0 = false → (rd m (i : Int)).f0 ∈ ds ∧ (rd m (i : Int)).f1 = a1 ∧ (rd m (i : Int)).f2 = a2)) : ∀ (n i k : Nat), i + n = m.length → 2000 * n < k →
    cantonlaw10_LocksOne.l1 k l a1 a2 ds true m (i : Int) = some true
  | n, i, 0, _, hk => absurd hk (by omega)
  | 0, i, k + 1, h, hk => by
    rw [cantonlaw10_LocksOne.l1, if_neg (by omega), if_pos rfl, decide_eq_true (by omega)]
  | n + 1, i, k + 1, h, hk => by
    have hi : i < m.length := by omega
    rw [cantonlaw10_LocksOne.l1, if_pos (by omega), if_pos (by omega), show rd_T34 m (i : Int) = rd m (i : Int) from rfl, held_f (by omega), Option.bind_some]
    refine one2 l a1 a2 ds m hds hml i hi _ _ (hc i hi).1 (hc i hi).2 ds.length 0 k false (by omega) (by omega) (fun k2 h2 => one1 l a1 a2 ds m hds hml hll hc n (i + 1) k2 (by omega) (by omega)) (.inr fun d hd _ => hd)
theorem one0 (l : List S) (a1 a2 : Int) (ds : List ByteArray) (m : List S) (hds : ds.length ≤ 1000) (hml : m.length ≤ 1000)
    (hh : ∀ d ∈ ds, heldB m d = true ∧ heldT m d = a1) (h1 : ∀ k, 3000000 ≤ k → cantonlaw10_LocksOne.l1 k l a1 a2 ds true m 0 = some true) : ∀ (n i k : Nat), i + n = ds.length → 3000000 + n < k →
    cantonlaw10_LocksOne.l0 k l a1 a2 ds true m (i : Int) = some true
  | n, i, 0, _, hk => absurd hk (by omega)
  | 0, i, k + 1, h, hk => by rw [cantonlaw10_LocksOne.l0, if_neg (by omega), h1 k (by omega)]
  | n + 1, i, k + 1, h, hk => by
    have hi : i < ds.length := by omega
    have hw := wsucc i (by omega)
    obtain ⟨g1, g2⟩ := hh ds[i] (List.getElem_mem hi)
    rw [cantonlaw10_LocksOne.l0, if_pos (by omega), if_pos (by omega), show rdOf ByteArray.empty ds (i : Int) = ds[i] from LTk0.rdS ds i hi, held_f (by omega), Option.bind_some, if_pos g1, if_pos g2, hw]
    exact one0 l a1 a2 ds m hds hml hh h1 n (i + 1) k (by omega) (by omega)
theorem LocksOne : OpensLocksOne.Pure := by
  intro l a1 a2 ds hl h1 h2 hd
  obtain ⟨hl0, hl1, hw⟩ := hl
  obtain ⟨hd0, hd1, hdw⟩ := hd
  obtain ⟨K, hK⟩ : ∃ K, K = l.length + ds.length + 5000000 := ⟨_, rfl⟩
  refine ⟨K + 1 + 1, ?_⟩
  unfold cantonlaw10_LocksOne.f
  rw [cantonlaw10_head.is, Option.bind_some]
  obtain ⟨b, hb, hg⟩ := great_is l ds (by omega) (by omega) (fun x hx => by have := (hw x hx).1; omega) (fun x hx => by have := hdw x hx; omega) (K + 1 + 1) (by omega)
  rw [hb, Option.bind_some]
  have stop : cantonlaw10_LocksOne.j0 (K + 1 + 1) l a1 a2 ds true true = some true := by rw [cantonlaw10_LocksOne.j0, if_pos rfl]
  by_cases c1 : b = true
  · rw [if_pos c1, stop]
  · rw [if_neg c1]
    obtain ⟨g1, g2, g3, g4⟩ := hg (by simpa using c1)
    rw [LRef.right_is l (by omega) (fun x hx => by have := g3 x hx; omega) (K + 1 + 1) (by omega), Option.bind_some]
    cases c2 : rightB l with
    | false => exact stop
    | true =>
      have hR := (right_iff l).1 c2
      rw [Bool.not_true, cantonlaw10_LocksOne.j0, if_neg (by simp), take_f hR h1 h2 (by omega), Option.bind_some]
      rcases took l a1 a2 ds with ⟨g, e⟩ | ⟨g, gf, m, e, hm, hr⟩ | ⟨g, x, hx, hdx, hn, W, e, _⟩
      · rw [e, if_neg (by simp), if_pos rfl, if_pos (by rfl)]
      · have hlen := got_len e
        rw [e, if_pos rfl]
        dsimp only
        rw [right_f hr (by omega) (K + 1) (by omega), Option.bind_some, if_pos rfl, List.length_nil, show (((0 : Nat) : Int) != 0) = false from rfl, cantonlaw10_LocksOne.j1, if_neg (by simp)]
        have hh : ∀ d ∈ ds, heldB m d = true ∧ heldT m d = a1 := fun d hd => by
          have hex : ∃ x ∈ m, x.f0 = d ∧ x.f1 = a1 := by
            by_cases c : ∃ x ∈ l, x.f0 = d
            · obtain ⟨x, hx, e⟩ := c
              exact ⟨x, (hm.mem x).2 (.inl hx), e, gf x hx (by rw [e]; exact hd)⟩
            · exact ⟨⟨d, a1, a2⟩, (hm.mem _).2 (.inr ⟨hd, rfl, rfl, fun x hx e => c ⟨x, hx, e⟩⟩), rfl, rfl⟩
          obtain ⟨x, hx, e1, e2⟩ := hex
          refine ⟨(held_iff m d).2 ⟨x, hx, e1⟩, ?_⟩
          rw [← e1, heldT_is hm.up hx, e2]
        have hc : ∀ i : Nat, i < m.length → (heldB l (rd m (i : Int)).f0 = true → heldT l (rd m (i : Int)).f0 = (rd m (i : Int)).f1) ∧ (heldB l (rd m (i : Int)).f0 = false → (rd m (i : Int)).f0 ∈ ds ∧ (rd m (i : Int)).f1 = a1 ∧ (rd m (i : Int)).f2 = a2) := fun i hi => by
          have hmem : rd m (i : Int) ∈ m := by rw [rd_get m i hi]; exact List.getElem_mem _
          generalize rd m (i : Int) = y at hmem
          constructor
          · intro hb
            obtain ⟨x, hx, e⟩ := (held_iff l _).1 hb
            have hxm := (hm.mem x).2 (.inl hx)
            have := uniq hm.up hxm hmem e
            subst this
            exact heldT_is hR.up hx
          · intro hb
            rcases (hm.mem y).1 hmem with hy | ⟨k1, k2, k3, _⟩
            · have := (held_iff l y.f0).2 ⟨y, hy, rfl⟩
              rw [hb] at this; cases this
            · exact ⟨k1, k2, k3⟩
        exact one0 l a1 a2 ds m (by omega) (by omega) hh (fun k hk => one1 l a1 a2 ds m (by omega) (by omega) hm.len hc m.length 0 k (by omega) (by omega)) ds.length 0 K (by omega) (by omega)
      · rw [e, if_neg (by simp), if_pos rfl]
        dsimp only
        by_cases c : (l.length : Int) = 0
        · rw [if_pos c]
        · rw [if_neg c, same_self l (by omega) (K + 1) (by omega), Option.bind_some]
end Go.Proofs.Ytclomgbiomojjaa.Pure
