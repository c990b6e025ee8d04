/- Replicas together: what a count, a proposal, a turn make of what always holds. -/
import Derived.Test.YtndnjmgmdkkifaaSt2
namespace Go.Proofs.Ytndnjmgmdkkifaa.St
open Go Go.RowKit Go.Proofs.Ytndnjmgmdkkifaa.New Go.Proofs.Ytndnjmgmdkkifaa.Vw Go.Proofs.Ytndnjmgmdkkifaa.Vw1
set_option linter.unusedVariables false
set_option linter.unusedSimpArgs false
open Classical

/-- no better -/
def leC (x y : Int × Log) : Prop := x.1 < y.1 ∨ x.1 = y.1 ∧ x.2.length ≤ y.2.length
theorem leC.refl (x : Int × Log) : leC x x := .inr ⟨rfl, Nat.le_refl _⟩
theorem leC.trans {x y z : Int × Log} (a : leC x y) (b : leC y z) : leC x z := by unfold leC at *; omega
def fineC (x : Int × Log) : Prop := 0 ≤ x.1 ∧ x.1 ≤ 281474976710656 ∧ x.2.length ≤ 96
theorem new_is {c b : Int × Log} (hc : fineC c) (hb : fineC b) : newB c.1 (c.2.length : Int) b.1 (b.2.length : Int) = (decide (b.1 < c.1) || (decide (c.1 = b.1) && decide (b.2.length < c.2.length))) := by
  unfold newB pairB
  unfold fineC at hc hb
  rw [Bool.eq_iff_iff]
  simp
  omega
theorem best_spec : ∀ (l : List (Option (Int × Log))) (b : Int × Log), fineC b → (∀ c, some c ∈ l → fineC c) → (bestOf b l = b ∨ some (bestOf b l) ∈ l) ∧ leC b (bestOf b l) ∧ ∀ c, some c ∈ l → leC c (bestOf b l)
  | [], b, hb, h => ⟨.inl rfl, leC.refl b, fun c hc => by cases hc⟩
  | none :: t, b, hb, h => by
    obtain ⟨h1, h2, h3⟩ := best_spec t b hb (fun c hc => h c (by simp [hc]))
    refine ⟨h1.imp id fun k => by simp only [bestOf, List.mem_cons]; exact .inr k, h2, fun c hc => ?_⟩
    rcases List.mem_cons.1 hc with e | e
    · cases e
    · exact h3 c e
  | some c :: t, b, hb, h => by
    have hc := h c (by simp)
    obtain ⟨d, hd⟩ : ∃ d, (if newB c.1 (c.2.length : Int) b.1 (b.2.length : Int) = true then c else b) = d := ⟨_, rfl⟩
    have hdd : (d = c ∧ leC b c) ∨ (d = b ∧ leC c b) := by
      rw [new_is hc hb] at hd
      split at hd
      · next k =>
        left
        simp at k
        exact ⟨hd.symm, by unfold leC; omega⟩
      · next k =>
        right
        simp at k
        exact ⟨hd.symm, by unfold leC; omega⟩
    have hfd : fineC d := by rcases hdd with ⟨e, _⟩ | ⟨e, _⟩ <;> rw [e] <;> assumption
    obtain ⟨h1, h2, h3⟩ := best_spec t d hfd (fun c hc => h c (by simp [hc]))
    have he : bestOf b (some c :: t) = bestOf d t := by rw [← hd]; rfl
    rw [he]
    refine ⟨?_, ?_, fun x hx => ?_⟩
    · rcases h1 with k | k
      · rw [k]
        rcases hdd with ⟨e, _⟩ | ⟨e, _⟩
        · rw [e]; right; simp
        · left; exact e
      · right; exact List.mem_cons_of_mem _ k
    · rcases hdd with ⟨e, k⟩ | ⟨e, k⟩
      · exact k.trans (e ▸ h2)
      · exact e ▸ h2
    · rcases List.mem_cons.1 hx with e | e
      · cases e
        rcases hdd with ⟨e, k⟩ | ⟨e, k⟩
        · exact e ▸ h2
        · exact k.trans (e ▸ h2)
      · exact h3 x e
section
variable {n : Nat} {r : Nat → V} {g : G} {i : Nat}
theorem Good.same (c : Core n r g) (p : Rp n r g i) : Good n r g i (r i) := by
  rw [Good, upd_self]
  exact ⟨g, c, Ext.refl n r g, p⟩
theorem mem_of_getD {l : List (Option (Int × Log))} {j : Nat} {x : Int × Log} (h : l.getD j none = some x) : some x ∈ l := by
  rw [List.getD_eq_getElem?_getD] at h
  cases e : l[j]? with
  | none => rw [e] at h; cases h
  | some y =>
    rw [e] at h
    have h : y = some x := h
    rw [← h]
    exact List.mem_of_getElem? e
theorem getD_of_mem {l : List (Option (Int × Log))} {x : Int × Log} (h : some x ∈ l) : ∃ j, j < l.length ∧ l.getD j none = some x := by
  obtain ⟨j, hj, e⟩ := List.getElem_of_mem h
  exact ⟨j, hj, by rw [List.getD_eq_getElem?_getD, List.getElem?_eq_getElem hj, e]; rfl⟩
theorem rightL_len' {l : Log} (h : rightL l = true) : l.length ≤ 96 := by
  unfold rightL at h
  simp only [Bool.and_eq_true, decide_eq_true_eq] at h
  exact h.2.1
/-- a replica's part with another log, of its view -/
def withLog (s : V) (lg : Log) : V := { s with log := lg, normal := s.view }
theorem rp_withLog (c : Core n r g) (hi : i < n) (p : Rp n r g i) {lg : Log} (hr : rightL lg = true) {g' : G} (c' : Core n (upd r i (withLog (r i) lg)) g') (e : Ext n r (upd r i (withLog (r i) lg)) g g')
    (hq : (r i).normal = (r i).view → (r i).log.length ≤ lg.length) : Rp n (upd r i (withLog (r i) lg)) g' i := by
  refine ⟨by rw [upd_same]; exact okv_adopt p.ok lg hr, by rw [upd_same]; exact p.me, by rw [upd_same]; exact p.many, by rw [upd_same]; exact p.ack0, by rw [upd_same]; exact p.chg0, ?_, ?_, ?_⟩
  · rw [upd_same]; exact fun j hj => (p.ack j hj).ext e hj
  · rw [upd_same]; exact fun j hj x hx => (p.chg j hj x hx).ext e hj
  · rw [upd_same]
    show SG n g' (r i).stays.toNat (r i).view lg
    obtain ⟨l, k1, k2, k3⟩ := c'.log i hi
    rw [upd_same] at k1 k2 k3
    refine (p.stays.ext c e).to c' p.ok.normal.2 k1 k2 k3 (fun hv => ?_)
    obtain ⟨l1, q1, q2, q3⟩ := c.log i hi
    obtain ⟨l2, q4, q5⟩ := e.L _ l1 q1
    rw [hv] at q4
    have : l2 = l := by
      have k1' : g'.L (r i).view = some l := k1
      rw [k1'] at q4; exact (Option.some.inj q4).symm
    subst this
    exact ⟨q3.trans q5, hq hv⟩
theorem good_count (c : Core n r g) (hi : i < n) (p : Rp n r g i) : Good n r g i (r i).count := by
  unfold V.count
  split
  · next h =>
    unfold V.first V.normalB V.mostB V.told at h
    simp only [Bool.and_eq_true, beq_iff_eq, Bool.not_eq_true', beq_eq_false_iff_ne, decide_eq_true_eq] at h
    obtain ⟨h1, h2, h3⟩ := h
    rw [p.many] at h1 h3
    rw [p.me] at h1
    have hn : (r i).normal < (r i).view := by have := p.ok.normal.2; omega
    have hfb : fineC ((r i).normal, (r i).log) := ⟨p.ok.normal.1, by have := p.ok.view; show (r i).normal ≤ _; omega, rightL_len' p.ok.log⟩
    have hfc : ∀ c, some c ∈ (r i).changes → fineC c := fun x hx => by
      have := p.ok.chg (some x) hx x rfl
      exact ⟨this.1, this.2.1, rightL_len' this.2.2⟩
    obtain ⟨b1, b2, b3⟩ := best_spec (r i).changes ((r i).normal, (r i).log) hfb hfc
    obtain ⟨B, hB⟩ : ∃ B, bestOf ((r i).normal, (r i).log) (r i).changes = B := ⟨_, rfl⟩
    rw [hB] at b1 b2 b3 ⊢
    have own := own_CG c hi hn
    have hbest : rightL B.2 = true ∧ B.1 < (r i).view ∧ ∃ lb, g.L B.1 = some lb ∧ g.I B.1 <+: B.2 ∧ B.2 <+: lb := by
      rcases b1 with e | e
      · rw [e]
        exact ⟨p.ok.log, own.1, own.2.2.2.2⟩
      · obtain ⟨j, hj, hj2⟩ := getD_of_mem e
        have hjn : j < n := by rw [p.ok.clen, p.many] at hj; simpa using hj
        have hc := p.chg j hjn B hj2
        exact ⟨(p.ok.chg (some B) e B rfl).2.2, hc.1, hc.2.2.2.2⟩
    obtain ⟨hr, hb1, lb, hb2, hb3, hb4⟩ := hbest
    have hq : Maj n (fun j => ∃ u l, CG r g j (r i).view u l ∧ (u < B.1 ∨ u = B.1 ∧ l.length ≤ B.2.length)) := by
      refine maj_of (i := i) none (fun c => c.isSome) (r i).changes (by rw [p.ok.clen, p.many]; rfl) hi ⟨_, _, own, b2⟩ (by rw [p.chg0]; rfl) (fun j hj hs => ?_) h3
      obtain ⟨x, hx⟩ := Option.isSome_iff_exists.1 hs
      exact ⟨x.1, x.2, p.chg j hj x hx, b3 x (mem_of_getD hx)⟩
    refine Good.trans (s := withLog (r i) B.2) ?_ (fun g1 c1 p1 => ?_)
    · obtain ⟨g', c', e⟩ := core_start (r' := upd r i (withLog (r i) B.2)) c hi h1.symm hn B.1 B.2 lb hb1 hb2 hb3 hb4 hq (fun j hj q => upd_other _ _ q) (by rw [upd_same]; rfl) (by rw [upd_same]; rfl) (by rw [upd_same]; rfl)
      exact ⟨g', c', e, rp_withLog c hi p hr c' e (fun h => absurd h (by omega))⟩
    · have := good_reckon c1 hi p1
      rw [upd_same] at this
      exact this
  · exact Good.same c p
theorem good_turn (c : Core n r g) (hi : i < n) (p : Rp n r g i) : Good n r g i (r i).turn.1 := by
  unfold V.turn
  split
  · exact Good.same c p
  · next h =>
    refine Good.trans (good_fresh c hi p ((r i).view + 1) (by omega) (by have := p.ok.view; omega)) (fun g1 c1 p1 => ?_)
    have := good_count c1 hi p1
    rw [upd_same] at this
    exact this
theorem good_propose (c : Core n r g) (hi : i < n) (p : Rp n r g i) (e : ByteArray) : Good n r g i ((r i).propose e).1 := by
  unfold V.propose
  split
  · next h =>
    simp only [Bool.and_eq_true] at h
    obtain ⟨h1, h2⟩ := h
    unfold V.firstB V.normalB at h1
    simp only [Bool.and_eq_true, beq_iff_eq] at h1
    obtain ⟨h3, h4⟩ := h1
    have hf : (i : Int) = (r i).view % n := by rw [← p.me, ← p.many, h3]
    have hw : withLog (r i) ((r i).log ++ [e]) = { r i with log := (r i).log ++ [e] } := by
      show (⟨(r i).view, (r i).view, (r i).log ++ [e], (r i).me, (r i).many, (r i).stays, (r i).acked, (r i).changes⟩ : V) = ⟨(r i).view, (r i).normal, (r i).log ++ [e], (r i).me, (r i).many, (r i).stays, (r i).acked, (r i).changes⟩
      rw [h4]
    refine Good.trans (s := withLog (r i) ((r i).log ++ [e])) ?_ (fun g1 c1 p1 => ?_)
    · obtain ⟨g', c', ex⟩ := core_append (r' := upd r i (withLog (r i) ((r i).log ++ [e]))) c hi e h4 hf (fun j hj q => upd_other _ _ q) (by rw [upd_same]; rfl) (by rw [upd_same]; exact h4.symm) (by rw [upd_same]; rfl)
      exact ⟨g', c', ex, rp_withLog c hi p h2 c' ex (fun _ => by simp)⟩
    · have := good_reckon c1 hi p1
      rw [upd_same] at this
      rw [← hw]
      exact this
  · exact Good.same c p
end
end Go.Proofs.Ytndnjmgmdkkifaa.St
