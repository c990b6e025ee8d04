/- Mounts: what a Flip makes, and which mount a directory has behind a Begin and a Flip. -/
import Derived.Test.YtpkaedpgpncgpaaMnt2
namespace Go.Proofs.Ytpkaedpgpncgpaa.Mnt
open Go Go.RowKit Go.Proofs.Ytpkaedpgpncgpaa.Rune Go.Proofs.Ytpkaedpgpncgpaa.Split Go.Proofs.Ytpkaedpgpncgpaa.PathT Go.Proofs.Ytpkaedpgpncgpaa.PathF Go.Proofs.Ytpkaedpgpncgpaa.Q Go.Proofs.Ytpkaedpgpncgpaa.MBegin Go.Proofs.YtpkaedpgpncgpaaW.PrintWords Go.Proofs.YtpkaedpgpncgpaaW.PrintLast Go.Proofs.YtpkaedpgpncgpaaW.PrintMore

inductive FlipR (l : List S) (p : ByteArray) (ep d : Int) : List S → Int → Prop
  | bad (h : ¬ Asks l p d) : FlipR l p ep d [] 1
  | late (h : Asks l p d) (hn : ∀ x ∈ l, x.f0 = p → ¬ (x.f3 = d ∧ ((movB x = true ∧ x.f2 = ep ∧ ep < 281474976710656) ∨ (movB x = false ∧ 1 ≤ x.f2 ∧ x.f2 - 1 = ep)))) : FlipR l p ep d l 133
  | again (h : Asks l p d) (x : S) (hx : x ∈ l) (h0 : x.f0 = p) (hd : x.f3 = d) (hm : movB x = false) (he : 1 ≤ x.f2) (hp : x.f2 - 1 = ep) : FlipR l p ep d l 0
  | done (h : Asks l p d) (x : S) (hx : x ∈ l) (h0 : x.f0 = p) (hd : x.f3 = d) (hm : movB x = true) (he : x.f2 = ep) (hp : ep < 281474976710656) : FlipR l p ep d (putM l p ⟨p, d, ep + 1, d⟩) 0
theorem flip_is (l : List S) (hl : l.length ≤ 9223372036854775000) (p : ByteArray) (ep d : Int) : ∃ r1 r2, mounts_Flip.f l p ep d = some (r1, r2) ∧ FlipR l p ep d r1 r2 := by
  unfold mounts_Flip.f
  rw [right_is l (by omega) (l.length + 10) (by omega), PathF.right_is, group_is, Option.bind_some, Option.bind_some, Option.bind_some]
  by_cases hA : (RightB l && (isP p && grp d)) = false
  · rw [show (decide (0 ≤ d) && decide (d < 4)) = grp d by rfl, if_pos hA]
    refine ⟨_, _, rfl, .bad ?_⟩
    rintro ⟨h1, h2, h3⟩
    rw [(right_iff l).2 h1, h2, h3] at hA; cases hA
  · have hA2 : RightB l = true ∧ isP p = true ∧ grp d = true := by simpa using hA
    have hAs : Asks l p d := ⟨(right_iff l).1 hA2.1, hA2.2⟩
    have hR := hAs.1
    rw [show (decide (0 ≤ d) && decide (d < 4)) = grp d by rfl, if_neg hA, if_neg (by have := hR.few; omega)]
    by_cases ho : own_ p l = false
    · rw [if_pos ho]
      exact ⟨_, _, rfl, .late hAs (fun x hx h0 _ => own_none hR.up ho x hx h0)⟩
    · rw [if_neg ho]
      have ho' : own_ p l = true := by simpa using ho
      obtain ⟨hmem, h0⟩ := own_mem ho'
      obtain ⟨x, hx⟩ : ∃ x, rd_T27 l (at_ p l : Nat) = x := ⟨_, rfl⟩
      have hx' : rd l (at_ p l : Nat) = x := hx
      rw [hx'] at hmem h0
      simp only [hx]
      have hok := (okE_iff x).1 (hR.ok x hmem)
      have hone : ∀ y ∈ l, y.f0 = p → y = x := fun y hy e => uniq hR.up hy hmem (e.trans h0.symm)
      by_cases c1 : x.f3 ≠ d
      · rw [if_pos c1]
        exact ⟨_, _, rfl, .late hAs (fun y hy e h => c1 (by rw [← hone y hy e]; exact h.1))⟩
      · rw [if_neg c1]
        have c1' : x.f3 = d := Decidable.not_not.1 c1
        by_cases c2 : movB x = true
        · rw [if_pos c2]
          by_cases c3 : x.f2 = ep ∧ ep < 281474976710656
          · rw [if_pos c3]
            have := FlipR.done (ep := ep) hAs x hmem h0 c1' c2 c3.1 c3.2
            unfold putM at this
            rw [if_pos ho'] at this
            have hw : wrap64 (x.f2 + 1) = ep + 1 := by rw [w64 (by omega) (by omega)]; omega
            refine ⟨_, _, rfl, ?_⟩
            rw [hw, h0, c1']
            exact this
          · rw [if_neg c3]
            refine ⟨_, _, rfl, .late hAs (fun y hy e h => ?_)⟩
            rw [hone y hy e] at h
            rcases h.2 with h | h
            · exact c3 h.2
            · rw [c2] at h; cases h.1
        · rw [if_neg c2]
          have c2' : movB x = false := by simpa using c2
          by_cases c3 : x.f2 < 1
          · rw [if_pos c3]
            refine ⟨_, _, rfl, .late hAs (fun y hy e h => ?_)⟩
            rw [hone y hy e] at h
            rcases h.2 with h | h
            · exact c2 h.1
            · omega
          · rw [if_neg c3, w64 (by omega) (by omega)]
            by_cases c4 : x.f2 - 1 ≠ ep
            · rw [if_pos c4]
              refine ⟨_, _, rfl, .late hAs (fun y hy e h => ?_)⟩
              rw [hone y hy e] at h
              rcases h.2 with h | h
              · exact c2 h.1
              · exact c4 h.2.2
            · rw [if_neg c4]
              exact ⟨_, _, rfl, .again hAs x hmem h0 c1' c2' (by omega) (Decidable.not_not.1 c4)⟩
theorem ok_done {l : List S} {p : ByteArray} {ep d : Int} {x : S} (h : Asks l p d) (hx : x ∈ l) (he : x.f2 = ep) (hp : ep < 281474976710656) : okE ⟨p, d, ep + 1, d⟩ = true := by
  have h1 := (okE_iff _).1 (h.1.ok x hx)
  have h2 := h.2.2
  unfold grp at h2
  simp only [Bool.and_eq_true, decide_eq_true_eq] at h2
  exact (okE_iff _).2 ⟨h.2.1, h2, h2, by show 0 ≤ ep + 1; omega, by show ep + 1 ≤ _; omega⟩
/-- behind a put of p's own mount, or a new one: which mount a directory has -/
theorem of_put {l : List S} (hR : RightM l) {p : ByteArray} {x : S} (hx : x.f0 = p) {d : ByteArray} {y z : S} (hy : OfM (putM l p x) d y) (hz : OfM l d z) :
    (y = x ∧ inP d p = true ∧ z.f0.size ≤ p.size) ∨ (y = z ∧ z.f0 ≠ p ∧ (inP d p = true → p.size ≤ z.f0.size)) := by
  have hm := mem_put hR hx
  rcases (hm y).1 hy.mem with rfl | ⟨hyl, hyn⟩
  · refine .inl ⟨rfl, by rw [← hx]; exact hy.isin, ?_⟩
    by_cases e : z.f0 = p
    · rw [e]; exact Nat.le_refl _
    · rw [← hx]
      exact hy.most z ((hm z).2 (.inr ⟨hz.mem, e⟩)) hz.isin
  · have hyz := hz.most y hyl hy.isin
    have hpd : inP d p = true → p.size ≤ y.f0.size := fun h => by
      have := hy.most x ((hm x).2 (.inl rfl)) (by rw [hx]; exact h)
      rw [hx] at this; exact this
    by_cases e : z.f0 = p
    · have h1 := hpd (by rw [← e]; exact hz.isin)
      rw [← e] at h1
      exact absurd ((in_eq (in_chain hy.isin hz.isin hyz) h1).symm.trans e) hyn
    · have h1 := hy.most z ((hm z).2 (.inr ⟨hz.mem, e⟩)) hz.isin
      have h2 : y = z := uniq hR.up hyl hz.mem (in_eq (in_chain hz.isin hy.isin h1) hyz)
      exact .inr ⟨h2, e, fun h => by rw [← h2]; exact hpd h⟩
end Go.Proofs.Ytpkaedpgpncgpaa.Mnt
