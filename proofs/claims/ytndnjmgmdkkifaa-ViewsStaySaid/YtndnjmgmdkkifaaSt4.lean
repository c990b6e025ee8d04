/- Replicas together: letters. -/
import Derived.Test.YtndnjmgmdkkifaaSt3
namespace Go.Proofs.Ytndnjmgmdkkifaa.St
open Go Go.RowKit Go.Proofs.Ytndnjmgmdkkifaa.New Go.Proofs.Ytndnjmgmdkkifaa.Vw Go.Proofs.Ytndnjmgmdkkifaa.Vw1
set_option linter.unusedVariables false
set_option linter.unusedSimpArgs false
open Classical

/-- a letter of a replica's -/
def LG (n : Nat) (r : Nat → V) (g : G) (j : Nat) (l : Ltr) : Prop :=
  (l.kind = 1 ∧ ∃ l0, g.L l.view = some l0 ∧ g.I l.view <+: l.log ∧ l.log <+: l0 ∧ SG n g l.stays.toNat l.view l.log) ∨ (l.kind = 2 ∧ AG g j l.view l.len.toNat) ∨ (l.kind = 3 ∧ CG r g j l.view l.normal l.log)
section
variable {n : Nat} {r r' : Nat → V} {g g' : G} {i : Nat}
theorem LG.ext (c : Core n r g) (e : Ext n r r' g g') {j : Nat} (hj : j < n) {l : Ltr} (h : LG n r g j l) : LG n r' g' j l := by
  rcases h with ⟨h, l0, h1, h2, h3, h4⟩ | ⟨h, h1⟩ | ⟨h, h1⟩
  · obtain ⟨l1, k1, k2⟩ := e.L _ l0 h1
    exact .inl ⟨h, l1, k1, by rw [e.I _ l0 h1]; exact h2, h3.trans k2, h4.ext c e⟩
  · exact .inr (.inl ⟨h, h1.ext e hj⟩)
  · exact .inr (.inr ⟨h, h1.ext e hj⟩)
theorem Good.trans' {s t : V} (a : Good n r g i s) (b : ∀ g1, Core n (upd r i s) g1 → Ext n r (upd r i s) g g1 → Rp n (upd r i s) g1 i → Good n (upd r i s) g1 i t) : Good n r g i t := by
  obtain ⟨g1, h1, h2, h3⟩ := a
  obtain ⟨g2, k1, k2, k3⟩ := b g1 h1 h2 h3
  rw [upd_upd] at k1 k2 k3
  exact ⟨g2, k1, h2.trans k2, k3⟩
/-- what a replica sends -/
theorem lg_send (c : Core n r g) (hi : i < n) (p : Rp n r g i) (k : Int) (h : ((r i).send k).2 = true) : LG n r g i ((r i).send k).1 := by
  unfold V.send at h ⊢
  split
  · next e => rw [if_pos e] at h; cases h
  · next e =>
    rw [if_neg e] at h
    split
    · next e2 =>
      unfold V.firstB V.normalB at e2
      simp only [Bool.and_eq_true, beq_iff_eq] at e2
      obtain ⟨l, k1, k2, k3⟩ := c.log i hi
      have hs := p.stays
      rw [e2.2] at k1 k2 hs
      exact .inl ⟨rfl, l, k1, k2, k3, hs⟩
    · next e2 =>
      rw [if_neg e2] at h
      split
      · next e3 => rw [if_pos e3] at h; cases h
      · split
        · next e4 =>
          unfold V.normalB at e4
          simp only [beq_iff_eq] at e4
          refine .inr (.inl ⟨rfl, .inr ⟨(r i).log.length, ?_, ?_⟩⟩)
          · show g.acc i (r i).view = _
            rw [← e4]; exact c.at_ i hi
          · show ((r i).log.length : Int).toNat ≤ _
            omega
        · next e4 =>
          unfold V.normalB at e4
          simp only [beq_iff_eq] at e4
          exact .inr (.inr ⟨rfl, own_CG c hi (by have := p.ok.normal.2; omega)⟩)
theorem SG.less {st k : Nat} {v : Int} {log : Log} (h : SG n g st v log) (hk : k ≤ st) : SG n g k v log := by
  rcases h with h | ⟨u, l, h1, h2, h3, h4, h5⟩
  · exact .inl (by omega)
  · refine .inr ⟨u, l, h1, h2, h3.mono fun j hj ⟨m, a, b⟩ => ⟨m, a, by omega⟩, by omega, ?_⟩
    have := congrArg (List.take k) h5
    rwa [List.take_take, List.take_take, Nat.min_eq_left hk] at this
/-- the same view and log -/
theorem good_same (c : Core n r g) (hi : i < n) (p : Rp n r g i) (s : V) (hv : s.view = (r i).view) (hn : s.normal = (r i).normal) (hl : s.log = (r i).log) (hme : s.me = (r i).me) (hmy : s.many = (r i).many) (ok : OkV s)
    (ha0 : s.acked.getD i 0 = 0) (hc0 : s.changes.getD i none = none) (ha : ∀ j, j < n → AG g j s.view (s.acked.getD j 0).toNat) (hc : ∀ j, j < n → ∀ x, s.changes.getD j none = some x → CG r g j s.view x.1 x.2) (hs : SG n g s.stays.toNat s.normal s.log) : Good n r g i s := by
  have hh := core_view (r' := upd r i s) c (fun j hj => by
      by_cases q : j = i
      · rw [q, upd_same, hv]; exact Int.le_refl _
      · rw [upd_other _ _ q]; exact Int.le_refl _) (fun j hj => by
      by_cases q : j = i
      · rw [q, upd_same, hn]
      · rw [upd_other _ _ q]) (fun j hj => by
      by_cases q : j = i
      · rw [q, upd_same, hl]
      · rw [upd_other _ _ q])
  exact ⟨g, hh.1, hh.2, by rw [upd_same]; exact ok, by rw [upd_same, hme]; exact p.me, by rw [upd_same, hmy]; exact p.many, by rw [upd_same]; exact ha0, by rw [upd_same]; exact hc0, by rw [upd_same]; exact ha, by rw [upd_same]; exact fun j hj x hx => (hc j hj x hx).ext hh.2 hj, by rw [upd_same]; exact hs⟩
/-- begun anew from what it saved -/
def anew (s : V) : V := ⟨s.view, s.normal, s.log, s.me, s.many, 0, List.replicate s.many.toNat 0, List.replicate s.many.toNat none⟩
theorem okv_anew {s : V} (o : OkV s) : OkV (anew s) :=
  ⟨o.many, o.me, o.normal, o.view, o.log, by show (0 : Int) ≤ 0 ∧ (0 : Int) ≤ 96; omega, by simp [anew], fun m hm => by simp [anew, List.mem_replicate] at hm; omega, by simp [anew], fun c hc x hx => by simp [anew, List.mem_replicate] at hc; rw [hc.2] at hx; cases hx⟩
theorem good_anew (c : Core n r g) (hi : i < n) (p : Rp n r g i) : Good n r g i (anew (r i)) :=
  good_same c hi p _ rfl rfl rfl rfl rfl (okv_anew p.ok) (rep_getD _ _ _) (rep_getD _ _ _) (fun j hj => .inl (by show ((List.replicate (r i).many.toNat (0 : Int)).getD j 0).toNat = 0; rw [rep_getD]; rfl)) (fun j hj x hx => by
    have hx : (List.replicate (r i).many.toNat (none : Option (Int × Log))).getD j none = some x := hx
    rw [rep_getD] at hx; cases hx) (.inl rfl)
theorem getD_set {α : Type} (l : List α) (i j : Nat) (v d : α) : (l.set i v).getD j d = if i = j ∧ i < l.length then v else l.getD j d := by
  rw [List.getD_eq_getElem?_getD, List.getD_eq_getElem?_getD, List.getElem?_set]
  by_cases h : i = j
  · subst h
    by_cases k : i < l.length
    · simp [k]
    · simp [k]
  · simp [h]
theorem good_got (c : Core n r g) (hi : i < n) (p : Rp n r g i) {fr : Nat} (hfr : fr < n) (hne : fr ≠ i) (l : Ltr) (hl : LG n r g fr l) {s0 : V} (hright : s0.rightB l = true) (hv : (r i).view = l.view) : Good n r g i ((r i).got fr l) := by
  obtain ⟨f1, f2, f3, f4, f5, f6, f7, f8, f9, f10, f11⟩ := right_facts hright
  unfold V.got
  split
  · next h =>
    unfold V.first at h
    simp only [Bool.and_eq_true, beq_iff_eq] at h
    obtain ⟨hk, hf⟩ := h
    rw [p.many] at hf
    have hl1 : ∃ l0, g.L l.view = some l0 ∧ g.I l.view <+: l.log ∧ l.log <+: l0 ∧ SG n g l.stays.toNat l.view l.log := by
      rcases hl with ⟨_, h⟩ | ⟨h, _⟩ | ⟨h, _⟩
      · exact h
      · omega
      · omega
    dsimp only
    have fin : ∀ (r1 : Nat → V) (g1 : G), Core n r1 g1 → Rp n r1 g1 i → LG n r1 g1 fr l → (r1 i).normal = (r1 i).view → (r1 i).view = l.view → l.log.length ≤ (r1 i).log.length → Good n r1 g1 i { r1 i with stays := imax (r1 i).stays (imin l.stays (r1 i).log.length) } := fun r1 g1 c1 p1 l1 h1 h2 h3 => by
      refine good_same c1 hi p1 _ rfl rfl rfl rfl rfl (okv_stays p1.ok _ (imax_range p1.ok.stays (by have := rightL_len' p1.ok.log; unfold imin; split <;> omega))) p1.ack0 p1.chg0 p1.ack p1.chg ?_
      show SG n g1 (imax (r1 i).stays (imin l.stays (r1 i).log.length)).toNat (r1 i).normal (r1 i).log
      have hm : (imin l.stays (r1 i).log.length).toNat ≤ l.stays.toNat := by unfold imin; split <;> omega
      have hs1 : SG n g1 (imin l.stays (r1 i).log.length).toNat (r1 i).normal (r1 i).log := by
        rcases l1 with ⟨_, l0, a1, a2, a3, a4⟩ | ⟨h, _⟩ | ⟨h, _⟩
        · obtain ⟨l2, b1, b2, b3⟩ := c1.log i hi
          rw [h1, h2] at b1 b2 ⊢
          rw [a1] at b1; cases b1
          exact (a4.to c1 (Int.le_refl _) a1 b2 b3 (fun _ => ⟨a3, h3⟩)).less hm
        · omega
        · omega
      have h0 : 0 ≤ imin l.stays (r1 i).log.length := by unfold imin; split <;> omega
      have := p1.ok.stays.1
      unfold imax
      split
      · exact hs1
      · exact p1.stays
    split
    · next h2 =>
      obtain ⟨l0, a1, a2, a3, a4⟩ := hl1
      refine Good.trans' (s := withLog (r i) l.log) ?_ (fun g1 c1 e1 p1 => ?_)
      · obtain ⟨g', c', e, _⟩ := core_adopt (r' := upd r i (withLog (r i) l.log)) c hi l.log l0 (by rw [hv]; exact a1) (by rw [hv]; exact a2) a3 p.ok.normal.2 (fun hnv => by
          unfold V.normalB at h2
          simp [hnv] at h2
          exact h2) (fun e => hne (by omega)) (fun j hj q => upd_other _ _ q) (by rw [upd_same]; rfl) (by rw [upd_same]; rfl) (by rw [upd_same]; rfl)
        exact ⟨g', c', e, rp_withLog c hi p f7 c' e (fun hnv => by
          unfold V.normalB at h2
          simp [hnv] at h2
          exact h2)⟩
      · have := fin _ g1 c1 p1 (hl.ext c e1 hfr) (by rw [upd_same]; rfl) (by rw [upd_same]; exact hv) (by rw [upd_same]; exact Nat.le_refl _)
        rw [upd_same] at this
        exact this
    · next h2 =>
      unfold V.normalB at h2
      simp at h2
      exact fin r g c p hl h2.1 hv (by omega)
  · split
    · next h =>
      simp only [Bool.and_eq_true, beq_iff_eq] at h
      obtain ⟨hk, hf⟩ := h
      have hl1 : AG g fr l.view l.len.toNat := by
        rcases hl with ⟨h, _⟩ | ⟨_, h⟩ | ⟨h, _⟩
        · omega
        · exact h
        · omega
      have hfr' : (fr : Int).toNat = fr := by omega
      rw [hfr']
      have hlen : fr < (r i).acked.length := by rw [p.ok.alen, p.many]; simpa using hfr
      refine Good.trans' (s := { r i with acked := (r i).acked.set fr (imax ((r i).acked.getD fr 0) l.len) }) ?_ (fun g1 c1 e1 p1 => ?_)
      · refine good_same c hi p _ rfl rfl rfl rfl rfl (okv_ack p.ok fr _ (imax_range (getD_range p.ok _) ⟨f8, f9⟩)) ?_ p.chg0 (fun j hj => ?_) p.chg p.stays
        · show ((r i).acked.set fr _).getD i 0 = 0
          rw [getD_set, if_neg (fun x => hne x.1)]
          exact p.ack0
        · show AG g j (r i).view (((r i).acked.set fr _).getD j 0).toNat
          rw [getD_set]
          split
          · next q =>
            rw [← q.1]
            have h1 := p.ack fr hfr
            rw [hv] at h1 ⊢
            unfold imax
            split
            · exact hl1
            · exact h1
          · exact p.ack j hj
      · have := good_reckon c1 hi p1
        rw [upd_same] at this
        exact this
    · split
      · next h =>
        simp only [Bool.and_eq_true, beq_iff_eq] at h
        obtain ⟨hk, hf⟩ := h
        have hl1 : CG r g fr l.view l.normal l.log := by
          rcases hl with ⟨h, _⟩ | ⟨h, _⟩ | ⟨_, h⟩
          · omega
          · omega
          · exact h
        have hfr' : (fr : Int).toNat = fr := by omega
        rw [hfr']
        refine Good.trans' (s := { r i with changes := (r i).changes.set fr (some (l.normal, l.log)) }) ?_ (fun g1 c1 e1 p1 => ?_)
        · refine good_same c hi p _ rfl rfl rfl rfl rfl (okv_chg p.ok fr _ _ ⟨f1, by omega⟩ f7) p.ack0 ?_ p.ack (fun j hj x hx => ?_) p.stays
          · show ((r i).changes.set fr _).getD i none = none
            rw [getD_set, if_neg (fun x => hne x.1)]
            exact p.chg0
          · have hx : ((r i).changes.set fr (some (l.normal, l.log))).getD j none = some x := hx
            rw [getD_set] at hx
            split at hx
            · next q =>
              cases hx
              rw [← q.1]
              show CG r g fr (r i).view l.normal l.log
              rw [hv]
              exact hl1
            · exact p.chg j hj x hx
        · have := good_count c1 hi p1
          rw [upd_same] at this
          exact this
      · exact Good.same c p
theorem good_take (c : Core n r g) (hi : i < n) (p : Rp n r g i) {fr : Nat} (hfr : fr < n) (l : Ltr) (hl : LG n r g fr l) : Good n r g i ((r i).take fr l).1 := by
  unfold V.take
  split
  · next h =>
    simp only [Bool.and_eq_true] at h
    obtain ⟨ho, hr⟩ := h
    have hne : fr ≠ i := fun e => by
      unfold V.otherB at ho
      rw [p.me, e] at ho
      simp at ho
    obtain ⟨f1, f2, f3, f4, f5, f6, f7, f8, f9, f10, f11⟩ := right_facts hr
    dsimp only
    split
    · next hv =>
      refine Good.trans' (good_fresh c hi p l.view (by omega) f3) (fun g1 c1 e1 p1 => ?_)
      have := good_got c1 hi p1 hfr hne l (hl.ext c e1 hfr) hr (by rw [upd_same]; rfl)
      rw [upd_same] at this
      exact this
    · next hv => exact good_got c hi p hfr hne l hl hr (by omega)
  · exact Good.same c p
end
end Go.Proofs.Ytndnjmgmdkkifaa.St
