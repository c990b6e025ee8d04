/- Replicas together: what their steps make of what always holds (views, logs). -/
import Derived.Test.YtndnjmgmdkkifaaSt0
namespace Go.Proofs.Ytndnjmgmdkkifaa.St
open Go Go.RowKit Go.Proofs.Ytndnjmgmdkkifaa.New Go.Proofs.Ytndnjmgmdkkifaa.Vw
set_option linter.unusedVariables false
set_option linter.unusedSimpArgs false
open Classical

section
variable {n : Nat} {r r' : Nat → V} {g : G}
theorem Able.back {g' : G} {u : Int} {k : Nat} (h : Able n r' g' u k) (hh : ∀ j, j < n → Has g' j u k ∨ (r' j).view ≤ u → Has g j u k ∨ (r j).view ≤ u) : Able n r g u k := Maj.mono h hh
/-- views that rise -/
theorem core_view (c : Core n r g) (hv : ∀ j, j < n → (r j).view ≤ (r' j).view) (hn : ∀ j, j < n → (r' j).normal = (r j).normal) (hl : ∀ j, j < n → (r' j).log = (r j).log) : Core n r' g ∧ Ext n r r' g g :=
  ⟨⟨fun i hi => by rw [hn i hi, hl i hi]; exact c.at_ i hi, fun i hi u hu => c.later i hi u (by rw [← hn i hi]; exact hu), fun i hi => by rw [hn i hi, hl i hi]; exact c.log i hi, c.bound, c.first,
    fun u l h => (c.most u l h).mono fun j hj hh => Int.le_trans hh (hv j hj),
    fun v l h u hu k hk ha => c.safe v l h u hu k hk (ha.back fun j hj hh => hh.imp id fun hh => Int.le_trans (hv j hj) hh)⟩,
   ⟨hv, fun _ _ _ m h => ⟨m, h, Nat.le_refl _⟩, fun _ _ _ _ => rfl, fun _ l h => ⟨l, h, List.prefix_refl _⟩, fun _ _ _ => rfl⟩⟩
/-- an entry more at the first of a view -/
theorem core_append (c : Core n r g) {i : Nat} (hi : i < n) (e : ByteArray) (hv : (r i).normal = (r i).view) (hf : (i : Int) = (r i).view % n)
    (ho : ∀ j, j < n → j ≠ i → r' j = r j) (h1 : (r' i).view = (r i).view) (h2 : (r' i).normal = (r i).normal) (h3 : (r' i).log = (r i).log ++ [e]) : ∃ g', Core n r' g' ∧ Ext n r r' g g' := by
  obtain ⟨l, hl, hI, hp⟩ := c.log i hi
  obtain ⟨f1, f2, f3⟩ := c.first _ l hl
  have hacc := f3 i hi (by rw [hv]; exact hf)
  rw [c.at_ i hi] at hacc
  have hle : (r i).log = l := hp.eq_of_length (Option.some.inj hacc)
  subst hle
  obtain ⟨u, hu⟩ : ∃ u, (r i).normal = u := ⟨_, rfl⟩
  rw [hu] at hl hI f1 f2 f3 hv
  have hvw : ∀ j, j < n → (r' j).view = (r j).view := fun j hj => by
    by_cases q : j = i
    · rw [q]; exact h1
    · rw [ho j hj q]
  have hnm : ∀ j, j < n → (r' j).normal = (r j).normal := fun j hj => by
    by_cases q : j = i
    · rw [q]; exact h2
    · rw [ho j hj q]
  refine ⟨⟨fun w => if w = u then some ((r i).log ++ [e]) else g.L w, g.I, fun j w => if j = i ∧ w = u then some ((r i).log.length + 1) else g.acc j w⟩, ⟨fun j hj => ?_, fun j hj w hw => ?_, fun j hj => ?_, fun j hj w m hm => ?_, fun w l hw => ?_, fun w l hw => ?_, fun v l hvl w hw k hk ha => ?_⟩, ⟨fun j hj => by rw [hvw j hj]; exact Int.le_refl _, fun j hj w m hm => ?_, fun j hj w hw => ?_, fun w l hw => ?_, fun w l hw => rfl⟩⟩
  · by_cases q : j = i
    · subst q
      dsimp only
      rw [h2, hu, if_pos ⟨rfl, rfl⟩, h3, List.length_append]; rfl
    · dsimp only
      rw [if_neg (fun x => q x.1), ho j hj q]
      exact c.at_ j hj
  · dsimp only
    rw [hnm j hj] at hw
    rw [if_neg (fun x => by rw [x.1, hu, x.2] at hw; omega)]
    exact c.later j hj w hw
  · by_cases q : j = i
    · subst q
      rw [h2, hu, h3]
      exact ⟨(r j).log ++ [e], if_pos rfl, hI.trans (List.prefix_append _ _), List.prefix_refl _⟩
    · rw [ho j hj q]
      obtain ⟨l, k1, k2, k3⟩ := c.log j hj
      by_cases q2 : (r j).normal = u
      · rw [q2] at k1 k2 ⊢
        rw [hl] at k1; cases k1
        exact ⟨(r i).log ++ [e], if_pos rfl, k2, k3.trans (List.prefix_append _ _)⟩
      · exact ⟨l, (if_neg q2).trans k1, k2, k3⟩
  · dsimp only at hm ⊢
    by_cases q : j = i ∧ w = u
    · rw [if_pos q] at hm
      cases hm
      exact ⟨(r i).log ++ [e], if_pos q.2, by simp⟩
    · rw [if_neg q] at hm
      obtain ⟨l, k1, k2⟩ := c.bound j hj w m hm
      by_cases q2 : w = u
      · subst q2
        rw [hl] at k1; cases k1
        exact ⟨(r i).log ++ [e], if_pos rfl, by rw [List.length_append]; omega⟩
      · exact ⟨l, (if_neg q2).trans k1, k2⟩
  · dsimp only at hw ⊢
    by_cases q : w = u
    · subst q
      rw [if_pos rfl] at hw
      cases hw
      refine ⟨f1, hI.trans (List.prefix_append _ _), fun j hj hjw => ?_⟩
      have : j = i := by rw [hv] at hjw; omega
      subst this
      rw [if_pos ⟨rfl, rfl⟩, List.length_append]; rfl
    · rw [if_neg q] at hw
      obtain ⟨k1, k2, k3⟩ := c.first w l hw
      exact ⟨k1, k2, fun j hj hjw => by rw [if_neg (fun x => q x.2)]; exact k3 j hj hjw⟩
  · dsimp only at hw
    have : ∃ l, g.L w = some l := by
      by_cases q : w = u
      · rw [q]; exact ⟨_, hl⟩
      · rw [if_neg q] at hw; exact ⟨_, hw⟩
    obtain ⟨l2, h⟩ := this
    exact (c.most w l2 h).mono fun j hj hh => by rw [hvw j hj]; exact hh
  · have hs : ∃ l, g.L v = some l := by
      dsimp only at hvl
      by_cases q : v = u
      · rw [q]; exact ⟨_, hl⟩
      · rw [if_neg q] at hvl; exact ⟨_, hvl⟩
    obtain ⟨l2, hs⟩ := hs
    have hb : Able n r g w k := ha.back fun j hj hh => by
      rw [hvw j hj] at hh
      rcases hh with ⟨m, hm, hkm⟩ | hh
      · dsimp only at hm
        by_cases q : j = i ∧ w = u
        · right
          rw [q.1, q.2, ← hv]
          exact Int.le_refl _
        · rw [if_neg q] at hm
          exact .inl ⟨m, hm, hkm⟩
      · exact .inr hh
    obtain ⟨l', k1, k2, k3⟩ := c.safe v l2 hs w hw k hk hb
    by_cases q : w = u
    · subst q
      rw [hl] at k1; cases k1
      exact ⟨(r i).log ++ [e], if_pos rfl, k2, by rw [k3, List.take_append_of_le_length (pre_of_take k2 k3)]⟩
    · exact ⟨l', (if_neg q).trans k1, k2, k3⟩
  · dsimp only
    by_cases q : j = i ∧ w = u
    · rw [if_pos q]
      rw [q.1, q.2, ← hu, c.at_ i hi] at hm
      cases hm
      exact ⟨_, rfl, by omega⟩
    · rw [if_neg q]
      exact ⟨m, hm, Nat.le_refl _⟩
  · dsimp only
    rw [if_neg (fun x => by rw [x.1, x.2, ← hv] at hw; omega)]
  · dsimp only
    by_cases q : w = u
    · rw [if_pos q]
      rw [q, hl] at hw; cases hw
      exact ⟨_, rfl, List.prefix_append _ _⟩
    · rw [if_neg q]
      exact ⟨l, hw, List.prefix_refl _⟩
/-- a log of its view taken in -/
theorem core_adopt (c : Core n r g) {i : Nat} (hi : i < n) (lg l0 : Log) (hL : g.L (r i).view = some l0) (hI : g.I (r i).view <+: lg) (hp : lg <+: l0) (hn : (r i).normal ≤ (r i).view)
    (hlen : (r i).normal = (r i).view → (r i).log.length ≤ lg.length) (hf : (i : Int) ≠ (r i).view % n)
    (ho : ∀ j, j < n → j ≠ i → r' j = r j) (h1 : (r' i).view = (r i).view) (h2 : (r' i).normal = (r i).view) (h3 : (r' i).log = lg) : ∃ g', Core n r' g' ∧ Ext n r r' g g' ∧ g'.L = g.L ∧ g'.I = g.I := by
  obtain ⟨v, hv⟩ : ∃ v, (r i).view = v := ⟨_, rfl⟩
  rw [hv] at hL hI hn hlen hf h1 h2
  have hvw : ∀ j, j < n → (r' j).view = (r j).view := fun j hj => by
    by_cases q : j = i
    · rw [q, h1, hv]
    · rw [ho j hj q]
  refine ⟨⟨g.L, g.I, fun j w => if j = i ∧ w = v then some lg.length else g.acc j w⟩, ⟨fun j hj => ?_, fun j hj w hw => ?_, fun j hj => ?_, fun j hj w m hm => ?_, fun w l hw => ?_, fun w l hw => (c.most w l hw).mono fun j hj hh => by rw [hvw j hj]; exact hh, fun x l hvl w hw k hk ha => ?_⟩, ⟨fun j hj => by rw [hvw j hj]; exact Int.le_refl _, fun j hj w m hm => ?_, fun j hj w hw => ?_, fun w l hw => ⟨l, hw, List.prefix_refl _⟩, fun w l hw => rfl⟩, rfl, rfl⟩
  · by_cases q : j = i
    · subst q
      dsimp only
      rw [h2, if_pos ⟨rfl, rfl⟩, h3]
    · dsimp only
      rw [if_neg (fun x => q x.1), ho j hj q]
      exact c.at_ j hj
  · dsimp only
    by_cases q : j = i
    · subst q
      rw [h2] at hw
      rw [if_neg (fun x => by omega)]
      exact c.later j hj w (by omega)
    · rw [if_neg (fun x => q x.1)]
      rw [ho j hj q] at hw
      exact c.later j hj w hw
  · by_cases q : j = i
    · subst q
      rw [h2, h3]
      exact ⟨l0, hL, hI, hp⟩
    · rw [ho j hj q]
      exact c.log j hj
  · dsimp only at hm ⊢
    by_cases q : j = i ∧ w = v
    · rw [if_pos q] at hm
      cases hm
      exact ⟨l0, by rw [q.2]; exact hL, hp.length_le⟩
    · rw [if_neg q] at hm
      exact c.bound j hj w m hm
  · obtain ⟨k1, k2, k3⟩ := c.first w l hw
    exact ⟨k1, k2, fun j hj hjw => by
      dsimp only
      rw [if_neg (fun x => hf (by rw [← x.1, ← x.2]; exact hjw))]
      exact k3 j hj hjw⟩
  · refine c.safe x l hvl w hw k hk (ha.back fun j hj hh => ?_)
    rw [hvw j hj] at hh
    rcases hh with ⟨m, hm, hkm⟩ | hh
    · dsimp only at hm
      by_cases q : j = i ∧ w = v
      · right
        rw [q.1, q.2, hv]
        exact Int.le_refl _
      · rw [if_neg q] at hm
        exact .inl ⟨m, hm, hkm⟩
    · exact .inr hh
  · dsimp only
    by_cases q : j = i ∧ w = v
    · rw [if_pos q]
      rw [q.1, q.2] at hm
      by_cases q2 : (r i).normal = v
      · rw [← q2, c.at_ i hi] at hm
        cases hm
        exact ⟨_, rfl, hlen q2⟩
      · rw [c.later i hi v (by omega)] at hm
        cases hm
    · rw [if_neg q]
      exact ⟨m, hm, Nat.le_refl _⟩
  · dsimp only
    rw [if_neg (fun x => by rw [x.1, x.2, hv] at hw; omega)]
/-- one's own log, as a change -/
theorem own_CG (c : Core n r g) {i : Nat} (hi : i < n) (hn : (r i).normal < (r i).view) : CG r g i (r i).view (r i).normal (r i).log :=
  ⟨hn, Int.le_refl _, c.at_ i hi, fun w h1 _ => c.later i hi w h1, c.log i hi⟩
/-- a view that begins -/
theorem core_start (c : Core n r g) {i : Nat} (hi : i < n) (hf : (i : Int) = (r i).view % n) (hn : (r i).normal < (r i).view) (bu : Int) (bl lb : Log) (hb1 : bu < (r i).view) (hb2 : g.L bu = some lb) (hb3 : g.I bu <+: bl) (hb4 : bl <+: lb)
    (hq : Maj n (fun j => ∃ u l, CG r g j (r i).view u l ∧ (u < bu ∨ u = bu ∧ l.length ≤ bl.length)))
    (ho : ∀ j, j < n → j ≠ i → r' j = r j) (h1 : (r' i).view = (r i).view) (h2 : (r' i).normal = (r i).view) (h3 : (r' i).log = bl) : ∃ g', Core n r' g' ∧ Ext n r r' g g' := by
  obtain ⟨v, hv⟩ : ∃ v, (r i).view = v := ⟨_, rfl⟩
  rw [hv] at hf hn hb1 hq h1 h2
  have hLn : g.L v = none := by
    cases e : g.L v with
    | none => rfl
    | some l =>
      have := (c.first v l e).2.2 i hi hf
      rw [c.later i hi v hn] at this
      cases this
  have han : ∀ j, j < n → g.acc j v = none := fun j hj => by
    cases e : g.acc j v with
    | none => rfl
    | some m =>
      obtain ⟨l, k, _⟩ := c.bound j hj v m e
      rw [hLn] at k; cases k
  have hvw : ∀ j, j < n → (r' j).view = (r j).view := fun j hj => by
    by_cases q : j = i
    · rw [q, h1, hv]
    · rw [ho j hj q]
  obtain ⟨ln, hln, _, _⟩ := c.log i hi
  have h0 : 0 ≤ v := by have := (c.first _ _ hln).1; omega
  refine ⟨⟨fun w => if w = v then some bl else g.L w, fun w => if w = v then bl else g.I w, fun j w => if j = i ∧ w = v then some bl.length else g.acc j w⟩, ⟨fun j hj => ?_, fun j hj w hw => ?_, fun j hj => ?_, fun j hj w m hm => ?_, fun w l hw => ?_, fun w l hw => ?_, fun x l hvl w hw k hk ha => ?_⟩, ⟨fun j hj => by rw [hvw j hj]; exact Int.le_refl _, fun j hj w m hm => ?_, fun j hj w hw => ?_, fun w l hw => ?_, fun w l hw => ?_⟩⟩
  · by_cases q : j = i
    · subst q
      dsimp only
      rw [h2, if_pos ⟨rfl, rfl⟩, h3]
    · dsimp only
      rw [if_neg (fun x => q x.1), ho j hj q]
      exact c.at_ j hj
  · dsimp only
    by_cases q : j = i
    · subst q
      rw [h2] at hw
      rw [if_neg (fun x => by omega)]
      exact c.later j hj w (by omega)
    · rw [if_neg (fun x => q x.1)]
      rw [ho j hj q] at hw
      exact c.later j hj w hw
  · by_cases q : j = i
    · subst q
      rw [h2, h3]
      exact ⟨bl, if_pos rfl, by dsimp only; rw [if_pos rfl]; exact List.prefix_refl _, List.prefix_refl _⟩
    · rw [ho j hj q]
      obtain ⟨l, k1, k2, k3⟩ := c.log j hj
      have hne : (r j).normal ≠ v := fun e => by rw [e, hLn] at k1; cases k1
      exact ⟨l, (if_neg hne).trans k1, by dsimp only; rw [if_neg hne]; exact k2, k3⟩
  · dsimp only at hm ⊢
    by_cases q : j = i ∧ w = v
    · rw [if_pos q] at hm
      cases hm
      exact ⟨bl, if_pos q.2, Nat.le_refl _⟩
    · rw [if_neg q] at hm
      obtain ⟨l, k1, k2⟩ := c.bound j hj w m hm
      exact ⟨l, (if_neg (fun e => by rw [e, hLn] at k1; cases k1)).trans k1, k2⟩
  · dsimp only at hw ⊢
    by_cases q : w = v
    · subst q
      rw [if_pos rfl] at hw
      cases hw
      refine ⟨h0, by rw [if_pos rfl]; exact List.prefix_refl _, fun j hj hjw => ?_⟩
      have : j = i := by omega
      subst this
      rw [if_pos ⟨rfl, rfl⟩]
    · rw [if_neg q] at hw
      obtain ⟨k1, k2, k3⟩ := c.first w l hw
      exact ⟨k1, by rw [if_neg q]; exact k2, fun j hj hjw => by rw [if_neg (fun x => q x.2)]; exact k3 j hj hjw⟩
  · dsimp only at hw
    by_cases q : w = v
    · subst q
      exact hq.mono fun j hj hh => by
        obtain ⟨u, l, hh, _⟩ := hh
        rw [hvw j hj]
        exact hh.2.1
    · rw [if_neg q] at hw
      exact (c.most w l hw).mono fun j hj hh => by rw [hvw j hj]; exact hh
  · dsimp only at hvl
    by_cases q : x = v
    · subst q
      have hwx : w ≠ x := by omega
      have hb : Able n r g w k := ha.back fun j hj hh => by
        rw [hvw j hj] at hh
        rcases hh with ⟨m, hm, hkm⟩ | hh
        · dsimp only at hm
          rw [if_neg (fun y => hwx y.2)] at hm
          exact .inl ⟨m, hm, hkm⟩
        · exact .inr hh
      obtain ⟨j, hj, ⟨uj, lj, hcg, hle⟩, hor⟩ := hq.meet hb
      obtain ⟨c1, c2, c3, c4, lu, c5, c6, c7⟩ := hcg
      have hhas : Has g j w k := by
        rcases hor with hh | hh
        · exact hh
        · omega
      obtain ⟨m, hm, hkm⟩ := hhas
      have huw : w ≤ uj := by
        rcases Int.lt_or_le uj w with d | d
        · rw [c4 w d (by omega)] at hm; cases hm
        · exact d
      have goal : ∃ l', g.L w = some l' ∧ k ≤ bl.length ∧ bl.take k = l'.take k := by
        by_cases e : w = bu
        · have e2 : uj = w := by omega
          subst e2
          rw [c3] at hm
          cases hm
          have : lj.length ≤ bl.length := by omega
          refine ⟨lb, by rw [e]; exact hb2, by omega, take_of_pre hb4 (by omega)⟩
        · obtain ⟨l', k1, k2, k3⟩ := c.safe bu lb hb2 w (by omega) k hk hb
          exact ⟨l', k1, Nat.le_trans k2 hb3.length_le, by rw [← take_of_pre hb3 k2]; exact k3⟩
      obtain ⟨l', k1, k2, k3⟩ := goal
      exact ⟨l', (if_neg hwx).trans k1, by dsimp only; rw [if_pos rfl]; exact k2, by dsimp only; rw [if_pos rfl]; exact k3⟩
    · rw [if_neg q] at hvl
      by_cases q2 : w = v
      · exfalso
        subst q2
        obtain ⟨j, hj, hor, hvj⟩ := ha.meet (c.most x l hvl)
        rw [hvw j hj] at hor
        rcases hor with ⟨m, hm, hkm⟩ | hh
        · dsimp only at hm
          by_cases q3 : j = i
          · subst q3; omega
          · rw [if_neg (fun y => q3 y.1), han j hj] at hm
            cases hm
        · omega
      · have hb : Able n r g w k := ha.back fun j hj hh => by
          rw [hvw j hj] at hh
          rcases hh with ⟨m, hm, hkm⟩ | hh
          · dsimp only at hm
            rw [if_neg (fun y => q2 y.2)] at hm
            exact .inl ⟨m, hm, hkm⟩
          · exact .inr hh
        obtain ⟨l', k1, k2, k3⟩ := c.safe x l hvl w hw k hk hb
        exact ⟨l', (if_neg q2).trans k1, by dsimp only; rw [if_neg q]; exact k2, by dsimp only; rw [if_neg q]; exact k3⟩
  · dsimp only
    by_cases q : j = i ∧ w = v
    · rw [q.1, q.2, han i hi] at hm
      cases hm
    · rw [if_neg q]
      exact ⟨m, hm, Nat.le_refl _⟩
  · dsimp only
    rw [if_neg (fun x => by rw [x.1, x.2, hv] at hw; omega)]
  · have hne : w ≠ v := fun e => by rw [e, hLn] at hw; cases hw
    exact ⟨l, (if_neg hne).trans hw, List.prefix_refl _⟩
  · have hne : w ≠ v := fun e => by rw [e, hLn] at hw; cases hw
    exact if_neg hne
end
end Go.Proofs.Ytndnjmgmdkkifaa.St
