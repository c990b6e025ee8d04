/- MountsApart, without memory: while a mount moves nothing near it begins to move, but it to the same group; what is apart does. -/
import Derived.Test.YtpkaedpgpncgpaaAskMountsApart
import Derived.Test.YtpkaedpgpncgpaaMRef
import Derived.Test.YtpkaedpgpncgpaaMnt3
import Derived.Test.YtpkaedpgpncgpaaQx6
namespace Go.Proofs.Ytpkaedpgpncgpaa.Pure
open Go Go.RowKit Go.Proofs.Ytpkaedpgpncgpaa.Q Go.Proofs.Ytpkaedpgpncgpaa.PathF Go.Proofs.Ytpkaedpgpncgpaa.Mnt Go.Proofs.Ytpkaedpgpncgpaa.MBegin Go.Proofs.YtpkaedpgpncgpaaW.PrintWords Go.Proofs.YtpkaedpgpncgpaaW.PrintLast Go.Proofs.Ytpkaedpgpncgpaa.OpensMountsApart

theorem apart_head (k : Nat) (hk : 50 ≤ k) : cantonlaw14_head.f k = some true := by
  obtain ⟨m, rfl⟩ : ∃ m, k = 50 + m := ⟨k - 50, by omega⟩
  exact cantonlaw14_head.mono_le 50 m true cantonlaw14_head.at50
section
variable {l m r : List S} {one two : ByteArray} {a b : Int} {q2 s2 : ByteArray} {q3 q4 q5 f s3 s4 s5 g : Int} {r' : List S}
theorem same_prefix (M : Moved l one a m) (h : BeginR m one b r q2 q3 q4 q5 f) : ((f == 0) == (a == b)) = true := by
  obtain ⟨x, hx, h0, hm, h3⟩ := M.own
  by_cases e : a = b
  · subst e
    have := begin_own h ⟨M.right, M.asks.2⟩ hx h0 hm h3
    rw [this.1]; simp
  · have hne : ¬ f = 0 := by
      intro hf
      have hown := own_at M.right.up hx
      rw [h0] at hown
      have hbusy : m.any (busyB one) = true := any_busy.2 ⟨x, hx, hm, by rw [h0]; exact near_self M.asks.2.1⟩
      cases h with
      | bad h => omega
      | same h ho hmm hd => exact e (by rw [← h3, ← hd, hown.2])
      | busy h => omega
      | there h => omega
      | many h => omega
      | new h hb => rw [hbusy] at hb; cases hb
    have h1 : (f == 0) = false := beq_eq_false_iff_ne.2 hne
    have h2 : (a == b) = false := beq_eq_false_iff_ne.2 e
    rw [h1, h2]; rfl
theorem near_prefix (M : Moved l one a m) (hne : one ≠ two) (hnear : near two one = true) (h : BeginR m two b r q2 q3 q4 q5 f) (h' : BeginR l two b r' s2 s3 s4 s5 g) : f = 131 ∨ f = 1 ∨ (f = 0 ∧ g = 0) := by
  obtain ⟨x, hx, h0, hm, h3⟩ := M.own
  have hbusy : m.any (busyB two) = true := any_busy.2 ⟨x, hx, hm, by rw [h0]; exact hnear⟩
  cases h with
  | bad h => exact .inr (.inl rfl)
  | same h ho hmm hd =>
    obtain ⟨hy, hy0⟩ := own_mem ho
    have hyl := (M.rest _ (by rw [hy0]; exact fun e => hne e.symm)).1 hy
    exact .inr (.inr ⟨rfl, (begin_own h' ⟨M.asks.1, h.2⟩ hyl hy0 hmm hd).1⟩)
  | busy h => exact .inl rfl
  | there h hb => rw [hbusy] at hb; cases hb
  | many h hb => rw [hbusy] at hb; cases hb
  | new h hb => rw [hbusy] at hb; cases hb
theorem of_same (M : Moved l one a m) (hin : inP two one = false) {i j : Nat} (hi : IsOf m two i) (hj : IsOf l two j) : rd m (i : Int) = rd l (j : Int) := by
  have h1 := ofM hi
  have h2 := ofM hj
  have n1 : (rd m (i : Int)).f0 ≠ one := fun e => by have := h1.isin; rw [e, hin] at this; cases this
  refine ofM_only M.asks.1.up ⟨(M.rest _ n1).1 h1.mem, h1.isin, fun z hz hd => ?_⟩ h2
  have n2 : z.f0 ≠ one := fun e => by rw [e, hin] at hd; cases hd
  exact h1.most z ((M.rest _ n2).2 hz) hd
theorem far_prefix (M : Moved l one a m) (hne : one ≠ two) (hfar : near two one = false) (h : BeginR m two b r q2 q3 q4 q5 f) (h' : BeginR l two b r' s2 s3 s4 s5 g) : f = g ∨ f = 2 := by
  obtain ⟨x, hx, h0, hm, h3⟩ := M.own
  have hin : inP two one = false := by
    unfold near at hfar
    simp only [Bool.or_eq_false_iff] at hfar
    exact hfar.1
  have hbl : m.any (busyB two) = l.any (busyB two) := by
    rw [Bool.eq_iff_iff, any_busy, any_busy]
    constructor
    · rintro ⟨y, hy, hyb, hyn⟩
      have : y.f0 ≠ one := fun e => by rw [e, hfar] at hyn; cases hyn
      exact ⟨y, (M.rest y this).1 hy, hyb, hyn⟩
    · rintro ⟨y, hy, hyb, hyn⟩
      have : y.f0 ≠ one := fun e => by rw [e, hfar] at hyn; cases hyn
      exact ⟨y, (M.rest y this).2 hy, hyb, hyn⟩
  have hown : own_ two m = own_ two l := by
    cases e1 : own_ two m with
    | true =>
      obtain ⟨hy, hy0⟩ := own_mem e1
      have := (own_at M.asks.1.up ((M.rest _ (by rw [hy0]; exact fun e => hne e.symm)).1 hy)).1
      rw [hy0] at this; exact this.symm
    | false =>
      cases e2 : own_ two l with
      | false => rfl
      | true =>
        obtain ⟨hy, hy0⟩ := own_mem e2
        exact absurd hy0 (own_none M.right.up e1 _ ((M.rest _ (by rw [hy0]; exact fun e => hne e.symm)).2 hy))
  cases h with
  | bad h =>
    cases h' with
    | bad _ => exact .inl rfl
    | same h' => exact absurd ⟨M.right, h'.2⟩ h
    | busy h' => exact absurd ⟨M.right, h'.2⟩ h
    | there h' => exact absurd ⟨M.right, h'.2⟩ h
    | many h' => exact absurd ⟨M.right, h'.2⟩ h
    | new h' => exact absurd ⟨M.right, h'.2⟩ h
  | same h ho hmm hd =>
    obtain ⟨hy, hy0⟩ := own_mem ho
    have hyl := (M.rest _ (by rw [hy0]; exact fun e => hne e.symm)).1 hy
    exact .inl (begin_own h' ⟨M.asks.1, h.2⟩ hyl hy0 hmm hd).1.symm
  | busy h hn hb =>
    rw [hbl] at hb
    cases h' with
    | bad h' => exact absurd ⟨M.asks.1, h.2⟩ h'
    | same h' ho hmm hd =>
      obtain ⟨hy, hy0⟩ := own_mem ho
      have hym := (M.rest _ (by rw [hy0]; exact fun e => hne e.symm)).2 hy
      have := own_at M.right.up hym
      rw [hy0] at this
      exact absurd ⟨this.1, by rw [this.2]; exact hmm, by rw [this.2]; exact hd⟩ hn
    | busy h' => exact .inl rfl
    | there h' hb' => rw [hb] at hb'; cases hb'
    | many h' hb' => rw [hb] at hb'; cases hb'
    | new h' hb' => rw [hb] at hb'; cases hb'
  | there h hb i hi ht =>
    rw [hbl] at hb
    cases h' with
    | bad h' => exact absurd ⟨M.asks.1, h.2⟩ h'
    | same h' ho hmm hd =>
      obtain ⟨hy, hy0⟩ := own_mem ho
      have : l.any (busyB two) = true := any_busy.2 ⟨_, hy, hmm, by rw [hy0]; exact near_self h.2.1⟩
      rw [this] at hb; cases hb
    | busy h' hn' hb' => rw [hb] at hb'; cases hb'
    | there h' => exact .inl rfl
    | many h' hb' j hj ht' => exact absurd (by rw [← of_same M hin hi hj]; exact ht) ht'
    | new h' hb' j hj ht' => exact absurd (by rw [← of_same M hin hi hj]; exact ht) ht'
  | many h => exact .inr rfl
  | new h hb i hi ht hm2 he =>
    rw [hbl] at hb
    cases h' with
    | bad h' => exact absurd ⟨M.asks.1, h.2⟩ h'
    | same h' ho hmm hd =>
      obtain ⟨hy, hy0⟩ := own_mem ho
      have : l.any (busyB two) = true := any_busy.2 ⟨_, hy, hmm, by rw [hy0]; exact near_self h.2.1⟩
      rw [this] at hb; cases hb
    | busy h' hn' hb' => rw [hb] at hb'; cases hb'
    | there h' hb' j hj ht' => exact absurd (by rw [of_same M hin hi hj]; exact ht') ht
    | many h' hb' j hj ht' hm' =>
      rcases hm' with ⟨h1, h2⟩ | h1
      · rcases hm2 with h3 | h3
        · rw [hown, h1] at h3; cases h3
        · have := M.long
          omega
      · exact absurd (by rw [of_same M hin hi hj]; exact h1) he
    | new h' => exact .inl rfl
end
theorem MountsApart : OpensMountsApart.Pure := by
  intro l one two a b hl hone htwo ha hb
  obtain ⟨hl, hl40, hw⟩ := hl
  refine ⟨(l.length + 200000) + 1 + 1, ?_⟩
  obtain ⟨K, hK⟩ : ∃ K, K = l.length + 200000 := ⟨_, rfl⟩
  rw [← hK]
  unfold cantonlaw14_MountsApart.f
  rw [apart_head _ (by omega), Option.bind_some]
  obtain ⟨bb, hbb, hsz⟩ := great_is l (by omega) (fun x hx => by have := (hw x hx).1; omega) (K + 1 + 1) (by omega)
  rw [hbb, Option.bind_some]
  have stop : cantonlaw14_MountsApart.j0 (K + 1 + 1) l one two a b true true = some true := by rw [cantonlaw14_MountsApart.j0, if_pos rfl]
  by_cases c1 : bb = true
  · rw [if_pos c1, stop]
  · rw [if_neg c1]
    by_cases c2 : (one.size : Int) > 1000
    · rw [if_pos c2, stop]
    · rw [if_neg c2]
      by_cases c3 : (two.size : Int) > 1000
      · rw [decide_eq_true c3, stop]
      · rw [decide_eq_false c3, cantonlaw14_MountsApart.j0, if_neg (by simp)]
        obtain ⟨m, p2, p3, p4, p5, e, h1, hB1⟩ := begin_is l (by omega) one a
        rw [h1, Option.bind_some]
        show (if e = 0 then _ else _) = _
        by_cases c4 : e = 0
        · subst c4
          have M := moved hB1
          obtain ⟨r, q2, q3, q4, q5, f, h2, hB2⟩ := begin_is m (by have := M.right.few; omega) two b
          obtain ⟨r', s2, s3, s4, s5, g, h3, hB3⟩ := begin_is l (by omega) two b
          rw [if_pos rfl]
          show (mounts_Begin.f m two b).bind _ = _
          rw [h2, Option.bind_some, h3, Option.bind_some, ref_in_is one two (by omega) (by omega) (K + 1) (by omega), Option.bind_some, ref_in_is two one (by omega) (by omega) (K + 1) (by omega), Option.bind_some]
          have hj : ∀ n, n = near two one → cantonlaw14_MountsApart.j1 (K + 1) one two a b true f g n = some true := by
            intro n hn
            rw [cantonlaw14_MountsApart.j1]
            by_cases c5 : one = two
            · subst c5
              rw [if_pos rfl, if_pos rfl, same_prefix M hB2]
            · rw [if_neg (fun e => c5 (L_inj (by rw [← toL, ← toL, e])))]
              by_cases c6 : n = true
              · rw [if_pos c6, if_pos rfl]
                rcases near_prefix M c5 (by rw [← hn]; exact c6) hB2 hB3 with rfl | rfl | ⟨rfl, rfl⟩
                · rw [if_pos rfl]
                · rw [if_neg (by decide), if_pos rfl]
                · rw [if_neg (by decide), if_neg (by decide), if_pos rfl]; rfl
              · rw [if_neg c6, if_pos rfl]
                rcases far_prefix M c5 (by rw [← hn]; simpa using c6) hB2 hB3 with rfl | rfl
                · rw [if_pos rfl]
                · by_cases c7 : (2 : Int) = g
                  · rw [if_pos c7]
                  · rw [if_neg c7]; rfl
          show (if inP one two = true then cantonlaw14_MountsApart.j1 (K + 1) one two a b true f g true else cantonlaw14_MountsApart.j1 (K + 1) one two a b true f g (inP two one)) = _
          by_cases c8 : inP one two = true
          · rw [if_pos c8]
            exact hj true (by unfold near; rw [c8]; simp)
          · rw [if_neg c8]
            have c8' : inP one two = false := by simpa using c8
            exact hj _ (by unfold near; rw [c8']; simp)
        · rw [if_neg c4]
end Go.Proofs.Ytpkaedpgpncgpaa.Pure
