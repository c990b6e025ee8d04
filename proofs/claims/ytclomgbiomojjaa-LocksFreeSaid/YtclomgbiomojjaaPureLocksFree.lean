/- LocksFree, without memory: what is let go is held by nobody, and can be taken; all else is held as it was; who held nothing lets nothing go. -/
import Derived.Test.YtclomgbiomojjaaAskLocksFree
import Derived.Test.YtclomgbiomojjaaLLaw
namespace Go.Proofs.Ytclomgbiomojjaa.Pure
open Go Go.RowKit Go.Proofs.Ytclomgbiomojjaa.Split Go.Proofs.Ytclomgbiomojjaa.Q Go.Proofs.Ytclomgbiomojjaa.PathF Go.Proofs.Ytclomgbiomojjaa.LTh Go.Proofs.Ytclomgbiomojjaa.LRef Go.Proofs.Ytclomgbiomojjaa.LLaw Go.Proofs.Ytclomgbiomojjaa.LTake Go.Proofs.Ytclomgbiomojjaa.LHeld Go.Proofs.YtclomgbiomojjaaW.PrintWords Go.Proofs.YtclomgbiomojjaaW.PrintLast Go.Proofs.Ytclomgbiomojjaa.OpensLocksFree
open Go.Proofs.Ytclomgbiomojjaa.LRgt (rightB)
open Go.Proofs.Ytclomgbiomojjaa.LSet (Up ltI ltB ordB)
set_option linter.unusedVariables false

theorem pigeon : ∀ (n : Nat) (a : List Int), (∀ c : Nat, c < n → (c : Int) ∈ a) → n ≤ a.length
  | 0, a, _ => Nat.zero_le _
  | n + 1, a, h => by
    have h1 := pigeon n (a.filter (fun x => !(x == (n : Int)))) (fun c hc => List.mem_filter.2 ⟨h c (by omega), by simp; omega⟩)
    have h2 : (a.filter (fun x => !(x == (n : Int)))).length < a.length := List.length_filter_lt_length_iff_exists.2 ⟨(n : Int), h n (by omega), by simp⟩
    omega
def gone (l : List S) (t : Int) : List ByteArray := (l.filter (fun x => x.f1 == t)).map (·.f0)
theorem parted (t : Int) : ∀ l : List S, (freeP l t).length + (gone l t).length = l.length
  | [] => rfl
  | x :: r => by
    have ih := parted t r
    unfold gone at ih ⊢
    show ((x :: r).filter (fun x => !(x.f1 == t))).length + _ = _
    have ih' : (r.filter (fun x => !(x.f1 == t))).length + ((r.filter (fun x => x.f1 == t)).map (·.f0)).length = r.length := ih
    rw [List.filter_cons, List.filter_cons]
    cases x.f1 == t <;> simp at ih' ⊢ <;> omega
theorem mem_gone {l : List S} {t : Int} {d : ByteArray} : d ∈ gone l t ↔ ∃ x ∈ l, x.f1 = t ∧ x.f0 = d := by
  unfold gone
  rw [List.mem_map]
  constructor
  · rintro ⟨x, hx, e⟩
    obtain ⟨h1, h2⟩ := List.mem_filter.1 hx
    exact ⟨x, h1, by simpa using h2, e⟩
  · rintro ⟨x, hx, e1, e2⟩
    exact ⟨x, List.mem_filter.2 ⟨hx, by simpa using e1⟩, e2⟩
theorem up_names {l : List S} (h : l.Pairwise Less) : Up ltB (l.map (·.f0)) := List.pairwise_map.2 (h.imp fun {a b} hab => by
  have : PathF.lessB a.f0 b.f0 = true := hab
  unfold PathF.lessB at this
  rw [toL, toL] at this
  exact this)
/-- what was let go is taken by somebody new -/
theorem free_take {l : List S} (hR : RightH l) (t c : Int) (hc : 0 ≤ c ∧ c ≤ 200) (hn : ∀ x ∈ freeP l t, x.f1 ≠ c) : ∃ m, takeP (freeP l t) c 1 (gone l t) = (m, [], true) ∧ m.length = l.length := by
  have hR2 := right_free hR t
  have hok : Ok (freeP l t) c 1 (gone l t) := ⟨hR2, ⟨hc.1, by omega⟩, ⟨by omega, by omega⟩, fun d hd => by
    obtain ⟨x, hx, _, e⟩ := mem_gone.1 hd
    rw [← e]; exact ((okE_iff x).1 (hR.ok x hx)).1, fun x hx e => absurd e (hn x hx)⟩
  have hfree : ∀ x ∈ freeP l t, x.f0 ∉ gone l t := fun x hx hd => by
    obtain ⟨h1, h2⟩ := mem_free.1 hx
    obtain ⟨y, hy, e1, e2⟩ := mem_gone.1 hd
    have := uniq hR.up hy h1 e2
    subst this
    exact h2 e1
  rcases took (freeP l t) c 1 (gone l t) with ⟨g, _⟩ | ⟨g, g2, m, e, hm, _⟩ | ⟨g, x, hx, hd, _⟩
  · exact absurd hok g
  · refine ⟨m, e, ?_⟩
    have he : m.map (·.f0) = l.map (·.f0) := LSet.up_eq ordB (up_names hm.up) (up_names hR.up) (fun d => by
      rw [List.mem_map, List.mem_map]
      constructor
      · rintro ⟨y, hy, rfl⟩
        rcases (hm.mem y).1 hy with h | ⟨h, _⟩
        · exact ⟨y, (mem_free.1 h).1, rfl⟩
        · obtain ⟨x, hx, _, e⟩ := mem_gone.1 h
          exact ⟨x, hx, e⟩
      · rintro ⟨y, hy, rfl⟩
        by_cases c2 : y.f1 = t
        · refine ⟨⟨y.f0, c, 1⟩, (hm.mem _).2 (.inr ⟨mem_gone.2 ⟨y, hy, c2, rfl⟩, rfl, rfl, fun x hx e => ?_⟩), rfl⟩
          exact hfree x hx (by rw [e]; exact mem_gone.2 ⟨y, hy, c2, rfl⟩)
        · exact ⟨y, (hm.mem y).2 (.inl (mem_free.2 ⟨hy, c2⟩)), rfl⟩)
    have := congrArg List.length he
    simpa using this
  · exact absurd hd (hfree x hx)
/-- is a number among the transactions? -/
theorem free2 (l : List S) (a : List S) (ds : List ByteArray) (c : Int) (ha : a.length ≤ 1000) (r1 r2 : Bool) : ∀ (n j k : Nat) (is : Bool), j + n = a.length → n < k →
    (∀ k2, k ≤ k2 + n + 1 → cantonlaw10_LocksFree.l1 k2 l true a ds (wrap64 (c + 1)) = some r1) →
    (∀ x ∈ a.drop j, x.f1 ≠ c) ∧ is = false ∧ ((locks_Take.f a c 1 ds).bind fun bt269 => (if bt269.2.2 = true then (some ((bt269.1.length : Int) == (l.length : Int))) else (some false))) = some r2 →
    cantonlaw10_LocksFree.l2 k l true a ds c is (j : Int) = some r2
  | n, j, 0, _, _, hk, _, _ => absurd hk (by omega)
  | 0, j, k + 1, is, h, hk, hn, hc => by
    obtain ⟨_, rfl, h3⟩ := hc
    rw [cantonlaw10_LocksFree.l2, if_neg (by omega), if_neg (by simp)]
    simp only [if_true]
    exact h3
  | n + 1, j, k + 1, is, h, hk, hn, hc => by
    have hj : j < a.length := by omega
    obtain ⟨h1, rfl, h3⟩ := hc
    rw [cantonlaw10_LocksFree.l2, if_pos (by omega), if_neg (by simp), if_pos (by omega), wsucc j (by omega), show rd_T34 a (j : Int) = a[j] from rd_get a j hj]
    rw [List.drop_eq_getElem_cons hj] at h1
    have he : (a[j].f1 == c) = false := beq_eq_false_iff_ne.2 (h1 _ List.mem_cons_self)
    rw [he]
    exact free2 l a ds c ha r1 r2 n (j + 1) k false (by omega) (by omega) (fun k2 h2 => hn k2 (by omega)) ⟨fun x hx => h1 x (List.mem_cons_of_mem _ hx), rfl, h3⟩
theorem free2t (l : List S) (a : List S) (ds : List ByteArray) (c : Int) (ha : a.length ≤ 1000) (r1 : Bool) : ∀ (n j k : Nat) (is : Bool), j + n = a.length → n < k →
    (∀ k2, k ≤ k2 + n + 1 → cantonlaw10_LocksFree.l1 k2 l true a ds (wrap64 (c + 1)) = some r1) → (is = true ∨ ∃ x ∈ a.drop j, x.f1 = c) →
    cantonlaw10_LocksFree.l2 k l true a ds c is (j : Int) = some r1
  | n, j, 0, _, _, hk, _, _ => absurd hk (by omega)
  | 0, j, k + 1, is, h, hk, hn, hc => by
    have his : is = true := hc.elim id fun ⟨x, hx, _⟩ => by rw [List.drop_eq_nil_of_le (by omega)] at hx; cases hx
    rw [cantonlaw10_LocksFree.l2, if_neg (by omega), if_pos his, hn k (by omega)]
  | n + 1, j, k + 1, is, h, hk, hn, hc => by
    have hj : j < a.length := by omega
    rw [cantonlaw10_LocksFree.l2, if_pos (by omega), wsucc j (by omega)]
    cases is with
    | true =>
      rw [if_pos rfl]
      exact free2t l a ds c ha r1 n (j + 1) k true (by omega) (by omega) (fun k2 h2 => hn k2 (by omega)) (.inl rfl)
    | false =>
      rw [if_neg (by simp), if_pos (by omega), show rd_T34 a (j : Int) = a[j] from rd_get a j hj]
      refine free2t l a ds c ha r1 n (j + 1) k _ (by omega) (by omega) (fun k2 h2 => hn k2 (by omega)) ?_
      obtain ⟨x, hx, e⟩ := hc.resolve_left (by simp)
      rw [List.drop_eq_getElem_cons hj] at hx
      rcases List.mem_cons.1 hx with rfl | hx
      · left; simpa using e
      · right; exact ⟨x, hx, e⟩
theorem free1 {l : List S} (hR : RightH l) (t : Int) (hl : l.length ≤ 200) : ∀ (n : Nat) (c k : Nat), c + n = 201 → 2000 * n + 10 < k → (∃ q : Nat, c ≤ q ∧ q ≤ 200 ∧ ∀ x ∈ freeP l t, x.f1 ≠ (q : Int)) →
    cantonlaw10_LocksFree.l1 k l true (freeP l t) (gone l t) (c : Int) = some true
  | n, c, 0, _, hk, _ => absurd hk (by omega)
  | 0, c, k + 1, h, hk, hq => by
    obtain ⟨q, h1, h2, _⟩ := hq
    omega
  | n + 1, c, k + 1, h, hk, hq => by
    have hlen : (freeP l t).length + (gone l t).length = l.length := parted t l
    rw [cantonlaw10_LocksFree.l1, if_pos (by omega)]
    by_cases hx : ∃ x ∈ freeP l t, x.f1 = (c : Int)
    · refine free2t l _ _ (c : Int) (by omega) true (freeP l t).length 0 k false (by omega) (by omega) (fun k2 h2 => ?_) (.inr hx)
      rw [wsucc c (by omega)]
      refine free1 hR t hl n (c + 1) k2 (by omega) (by omega) ?_
      obtain ⟨q, h1, h2, h3⟩ := hq
      refine ⟨q, ?_, h2, h3⟩
      rcases Nat.lt_or_ge c q with h4 | h4
      · omega
      · have : q = c := by omega
        subst this
        obtain ⟨x, hx1, hx2⟩ := hx
        exact absurd hx2 (h3 x hx1)
    · obtain ⟨m, e, hm⟩ := free_take hR t (c : Int) ⟨by omega, by omega⟩ (fun x hx1 hx2 => hx ⟨x, hx1, hx2⟩)
      obtain ⟨r1, hr1⟩ : ∃ r1 : Bool, r1 = true := ⟨_, rfl⟩
      have hT : ((locks_Take.f (freeP l t) (c : Int) 1 (gone l t)).bind fun bt269 => (if bt269.2.2 = true then (some ((bt269.1.length : Int) == (l.length : Int))) else (some false))) = some true := by
        rw [take_f (right_free hR t) (wf_num ⟨by omega, by omega⟩) (by decide) (by omega), Option.bind_some, e, if_pos rfl]
        simp [hm]
      have key : ∀ (n2 j k2 : Nat), j + n2 = (freeP l t).length → n2 < k2 → cantonlaw10_LocksFree.l2 k2 l true (freeP l t) (gone l t) (c : Int) false (j : Int) = some true := by
        intro n2
        induction n2 with
        | zero =>
          intro j k2 hj hk2
          obtain ⟨k2, rfl⟩ : ∃ q, k2 = q + 1 := ⟨k2 - 1, by omega⟩
          rw [cantonlaw10_LocksFree.l2, if_neg (by omega), if_neg (by simp)]
          simp only [if_true]
          exact hT
        | succ n2 ih =>
          intro j k2 hj hk2
          obtain ⟨k2, rfl⟩ : ∃ q, k2 = q + 1 := ⟨k2 - 1, by omega⟩
          have hj2 : j < (freeP l t).length := by omega
          have he : ((freeP l t)[j].f1 == (c : Int)) = false := beq_eq_false_iff_ne.2 (fun e => hx ⟨_, List.getElem_mem hj2, e⟩)
          rw [cantonlaw10_LocksFree.l2, if_pos (by omega), if_neg (by simp), if_pos (by omega), wsucc j (by omega), show rd_T34 (freeP l t) (j : Int) = (freeP l t)[j] from rd_get _ j hj2, he]
          exact ih (j + 1) k2 (by omega) (by omega)
      exact key (freeP l t).length 0 k (by omega) (by omega)
theorem gone_snoc (l : List S) (t : Int) (i : Nat) (hi : i < l.length) : gone (l.take (i + 1)) t = gone (l.take i) t ++ (if l[i].f1 = t then [l[i].f0] else []) := by
  unfold gone
  rw [List.take_succ_eq_append_getElem hi, List.filter_append, List.map_append]
  congr 1
  by_cases c : l[i].f1 = t <;> simp [c]
theorem free0 {l : List S} (hR : RightH l) (t : Int) (hl : l.length ≤ 200) : ∀ (n i k : Nat), i + n = l.length → 3000000 + 2 * n < k →
    cantonlaw10_LocksFree.l0 k l t true (freeP l t) ((gone (l.take i) t).length : Int) (gone (l.take i) t) (i : Int) = some true
  | n, i, 0, _, hk => absurd hk (by omega)
  | 0, i, k + 1, h, hk => by
    have hlen : (freeP l t).length + (gone l t).length = l.length := parted t l
    obtain rfl : i = l.length := by omega
    rw [List.take_length]
    have hw : wrap64 ((l.length : Int) - ((gone l t).length : Int)) = ((l.length - (gone l t).length : Nat) : Int) := by unfold wrap64; omega
    obtain ⟨k, rfl⟩ : ∃ q, k = q + 1 := ⟨k - 1, by omega⟩
    rw [cantonlaw10_LocksFree.l0, if_neg (by omega), hw, if_pos (by omega), right_f (right_free hR t) (by omega) (k + 1) (by omega), Option.bind_some, Bool.not_true, cantonlaw10_LocksFree.j3, if_neg (by simp)]
    refine free1 hR t hl 201 0 k (by omega) (by omega) ?_
    refine Classical.byContradiction fun hn => ?_
    have := pigeon 201 ((freeP l t).map (·.f1)) (fun c hc => by
      refine Classical.byContradiction fun hm => hn ⟨c, Nat.zero_le _, by omega, fun x hx e => hm ?_⟩
      rw [← e]; exact List.mem_map_of_mem hx)
    rw [List.length_map] at this
    omega
  | n + 1, i, k + 1, h, hk => by
    have hi : i < l.length := by omega
    have hlen : (freeP l t).length + (gone l t).length = l.length := parted t l
    have hmem : l[i] ∈ l := List.getElem_mem hi
    have hg := gone_snoc l t i hi
    have hgl : (gone (l.take i) t).length ≤ 200 := by have := parted t (l.take i); simp at this; omega
    have ih := free0 hR t hl n (i + 1) (k - 1) (by omega) (by omega)
    obtain ⟨k, rfl⟩ : ∃ q, k = q + 1 := ⟨k - 1, by omega⟩
    rw [Nat.add_sub_cancel] at ih
    rw [cantonlaw10_LocksFree.l0, if_pos (by omega), if_pos (by omega), held_f (by omega), Option.bind_some]
    simp only [show rd_T34 l (i : Int) = l[i] from rd_get l i hi]
    have j2 : cantonlaw10_LocksFree.j2 (k + 1) l t true (freeP l t) ((gone (l.take i) t).length : Int) (gone (l.take i) t) (i : Int) false = some true := by
      rw [cantonlaw10_LocksFree.j2, if_neg (by simp), if_pos (by omega), if_pos (by omega)]
      simp only [show rd_T34 l (i : Int) = l[i] from rd_get l i hi]
      by_cases c : l[i].f1 = t
      · rw [if_pos c, if_pos (by omega), wsucc i (by omega), wsucc _ (by omega)]
        rw [if_pos c] at hg
        rw [hg] at ih
        rw [List.length_append] at ih
        exact ih
      · rw [if_neg c, wsucc i (by omega)]
        rw [if_neg c, List.append_nil] at hg
        rw [hg] at ih
        exact ih
    by_cases c : l[i].f1 = t
    · have hb : heldB (freeP l t) l[i].f0 = false := by
        cases q : heldB (freeP l t) l[i].f0 with
        | false => rfl
        | true =>
          obtain ⟨x, hx, e⟩ := (held_iff _ _).1 q
          obtain ⟨g1, g2⟩ := mem_free.1 hx
          have := uniq hR.up g1 hmem e
          subst this
          exact absurd c g2
      rw [hb]
      have hne : (l[i].f1 != t) = false := by simpa using c
      rw [hne, if_neg (by simp), if_neg (by simp)]
      exact j2
    · have hmf : l[i] ∈ freeP l t := mem_free.2 ⟨hmem, c⟩
      have hb : heldB (freeP l t) l[i].f0 = true := (held_iff _ _).2 ⟨_, hmf, rfl⟩
      have hT : heldT (freeP l t) l[i].f0 = l[i].f1 := heldT_is (right_free hR t).up hmf
      rw [hb, hT]
      have hne : (l[i].f1 != t) = true := bne_iff_ne.2 c
      rw [hne, if_neg (by simp), if_pos rfl, show (l[i].f1 != l[i].f1) = false by simp]
      exact j2
theorem LocksFree : OpensLocksFree.Pure := by
  intro l t hl h1
  obtain ⟨hl0, hl1, hw⟩ := hl
  obtain ⟨K, hK⟩ : ∃ K, K = l.length + 5000000 := ⟨_, rfl⟩
  refine ⟨K + 1, ?_⟩
  unfold cantonlaw10_LocksFree.f
  rw [cantonlaw10_head.is, Option.bind_some]
  obtain ⟨b, hb, hg⟩ := great_is l [] (by omega) (by simp) (fun x hx => by have := (hw x hx).1; omega) (by simp) (K + 1) (by simp; omega)
  rw [hb, Option.bind_some]
  have stop : cantonlaw10_LocksFree.j0 (K + 1) l t true true = some true := by rw [cantonlaw10_LocksFree.j0, if_pos rfl]
  by_cases c1 : b = true
  · rw [if_pos c1, stop]
  · rw [if_neg c1]
    obtain ⟨g1, g2, g3, g4⟩ := hg (by simpa using c1)
    rw [LRef.right_is l (by omega) (fun x hx => by have := g3 x hx; omega) (K + 1) (by omega), Option.bind_some]
    cases c2 : rightB l with
    | false => exact stop
    | true =>
      have hR := (right_iff l).1 c2
      rw [Bool.not_true, cantonlaw10_LocksFree.j0, if_neg (by simp), free_f (by omega), Option.bind_some]
      exact free0 hR t g1 l.length 0 K (by omega) (by omega)
end Go.Proofs.Ytclomgbiomojjaa.Pure
