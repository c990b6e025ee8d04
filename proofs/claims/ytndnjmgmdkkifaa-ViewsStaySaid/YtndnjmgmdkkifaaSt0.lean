/- Replicas together, of numbers and lists alone: what always holds of several replicas' parts, and what has been chosen (first half). -/
import Derived.Test.YtndnjmgmdkkifaaShelf
namespace Go.Proofs.Ytndnjmgmdkkifaa.St
open Go Go.RowKit Go.Proofs.Ytndnjmgmdkkifaa.New Go.Proofs.Ytndnjmgmdkkifaa.Vw
set_option linter.unusedVariables false
set_option linter.unusedSimpArgs false
open Classical

/-! ### most of n -/
/-- most of the first n numbers are so -/
noncomputable def cnt (n : Nat) (P : Nat → Prop) : Nat := (List.range n).countP (fun j => decide (P j))
def Maj (n : Nat) (P : Nat → Prop) : Prop := 2 * cnt n P > n
theorem cnt_mono {n : Nat} {P Q : Nat → Prop} (h : ∀ j, j < n → P j → Q j) : cnt n P ≤ cnt n Q :=
  List.countP_mono_left fun j hj hp => by
    have := h j (List.mem_range.1 hj) (of_decide_eq_true hp)
    simpa using this
theorem Maj.mono {n : Nat} {P Q : Nat → Prop} (m : Maj n P) (h : ∀ j, j < n → P j → Q j) : Maj n Q := by
  have := cnt_mono h
  unfold Maj at *
  omega
theorem cnt_both : ∀ (l : List Nat) (P Q : Nat → Prop), l.countP (fun j => decide (P j)) + l.countP (fun j => decide (Q j)) ≤ l.countP (fun j => decide (P j ∧ Q j)) + l.length
  | [], P, Q => by simp
  | x :: l, P, Q => by
    have := cnt_both l P Q
    simp only [Bool.decide_and, List.countP_cons, List.length_cons] at this ⊢
    by_cases h1 : P x <;> by_cases h2 : Q x <;> simp only [h1, h2, decide_true, decide_false, Bool.and_true, Bool.and_false, Bool.true_and, Bool.false_and, if_true, if_false, Bool.false_eq_true] <;> omega
theorem Maj.meet {n : Nat} {P Q : Nat → Prop} (m : Maj n P) (m2 : Maj n Q) : ∃ j, j < n ∧ P j ∧ Q j := by
  have := cnt_both (List.range n) P Q
  rw [List.length_range] at this
  unfold Maj cnt at m m2
  have h : 0 < (List.range n).countP (fun j => decide (P j ∧ Q j)) := by omega
  obtain ⟨j, hj, hp⟩ := List.countP_pos_iff.1 h
  exact ⟨j, List.mem_range.1 hj, of_decide_eq_true hp⟩
/-! ### beginnings of logs -/
theorem take_of_pre {a b : Log} (h : a <+: b) {k : Nat} (hk : k ≤ a.length) : a.take k = b.take k := by
  obtain ⟨t, rfl⟩ := h
  rw [List.take_append_of_le_length hk]
theorem pre_of_take {a b : Log} {k : Nat} (hk : k ≤ a.length) (h : a.take k = b.take k) : k ≤ b.length := by
  have := congrArg List.length h
  rw [List.length_take, List.length_take] at this
  omega
theorem pre_pre {a b c : Log} (h : a <+: c) (k : b <+: c) (hl : a.length ≤ b.length) : a <+: b := List.prefix_of_prefix_length_le h k hl
/-! ### what is told of the past -/
/-- L: each view's longest log; I: the log that it began with; acc: how long a log a replica had in a view -/
structure G where
  L : Int → Option Log
  I : Int → Log
  acc : Nat → Int → Option Nat
def Has (g : G) (j : Nat) (u : Int) (k : Nat) : Prop := ∃ m, g.acc j u = some m ∧ k ≤ m
/-- most have so much of a view's log -/
def Chosen (n : Nat) (g : G) (u : Int) (k : Nat) : Prop := Maj n (fun j => Has g j u k)
/-- most have, or may come to have -/
def Able (n : Nat) (r : Nat → V) (g : G) (u : Int) (k : Nat) : Prop := Maj n (fun j => Has g j u k ∨ (r j).view ≤ u)
/-- what always holds of several replicas' views and logs -/
structure Core (n : Nat) (r : Nat → V) (g : G) : Prop where
  at_ : ∀ i, i < n → g.acc i (r i).normal = some (r i).log.length
  later : ∀ i, i < n → ∀ u, (r i).normal < u → g.acc i u = none
  log : ∀ i, i < n → ∃ l, g.L (r i).normal = some l ∧ g.I (r i).normal <+: (r i).log ∧ (r i).log <+: l
  bound : ∀ i, i < n → ∀ u m, g.acc i u = some m → ∃ l, g.L u = some l ∧ m ≤ l.length
  first : ∀ u l, g.L u = some l → 0 ≤ u ∧ g.I u <+: l ∧ ∀ i, i < n → (i : Int) = u % n → g.acc i u = some l.length
  most : ∀ u l, g.L u = some l → Maj n (fun j => u ≤ (r j).view)
  safe : ∀ v l, g.L v = some l → ∀ u, u < v → ∀ k, 1 ≤ k → Able n r g u k → ∃ l', g.L u = some l' ∧ k ≤ (g.I v).length ∧ (g.I v).take k = l'.take k
/-- nothing is taken back -/
structure Ext (n : Nat) (r r' : Nat → V) (g g' : G) : Prop where
  view : ∀ j, j < n → (r j).view ≤ (r' j).view
  acc : ∀ j, j < n → ∀ u m, g.acc j u = some m → ∃ m', g'.acc j u = some m' ∧ m ≤ m'
  kept : ∀ j, j < n → ∀ u, u < (r j).view → g'.acc j u = g.acc j u
  L : ∀ u l, g.L u = some l → ∃ l', g'.L u = some l' ∧ l <+: l'
  I : ∀ u l, g.L u = some l → g'.I u = g.I u
theorem Ext.refl (n : Nat) (r : Nat → V) (g : G) : Ext n r r g g := ⟨fun _ _ => Int.le_refl _, fun _ _ _ m h => ⟨m, h, Nat.le_refl _⟩, fun _ _ _ _ => rfl, fun _ l h => ⟨l, h, List.prefix_refl _⟩, fun _ _ _ => rfl⟩
theorem Ext.trans {n : Nat} {r r1 r2 : Nat → V} {g g1 g2 : G} (a : Ext n r r1 g g1) (b : Ext n r1 r2 g1 g2) : Ext n r r2 g g2 :=
  ⟨fun j hj => Int.le_trans (a.view j hj) (b.view j hj), fun j hj u m h => by
    obtain ⟨m1, h1, l1⟩ := a.acc j hj u m h
    obtain ⟨m2, h2, l2⟩ := b.acc j hj u m1 h1
    exact ⟨m2, h2, Nat.le_trans l1 l2⟩, fun j hj u h => (b.kept j hj u (by have := a.view j hj; omega)).trans (a.kept j hj u h), fun u l h => by
    obtain ⟨l1, h1, p1⟩ := a.L u l h
    obtain ⟨l2, h2, p2⟩ := b.L u l1 h1
    exact ⟨l2, h2, p1.trans p2⟩, fun u l h => by
    obtain ⟨l1, h1, _⟩ := a.L u l h
    exact (b.I u l1 h1).trans (a.I u l h)⟩
/-- how much stays -/
def SG (n : Nat) (g : G) (st : Nat) (v : Int) (log : Log) : Prop := st = 0 ∨ ∃ u l, u ≤ v ∧ g.L u = some l ∧ Chosen n g u st ∧ st ≤ log.length ∧ log.take st = l.take st
/-- an acknowledgement -/
def AG (g : G) (j : Nat) (v : Int) (k : Nat) : Prop := k = 0 ∨ Has g j v k
/-- a change -/
def CG (r : Nat → V) (g : G) (j : Nat) (v u : Int) (log : Log) : Prop :=
  u < v ∧ v ≤ (r j).view ∧ g.acc j u = some log.length ∧ (∀ w, u < w → w < v → g.acc j w = none) ∧ ∃ l, g.L u = some l ∧ g.I u <+: log ∧ log <+: l
/-- what has stayed somewhere -/
def Ch (n : Nat) (g : G) (ch : Log) : Prop := ch = [] ∨ ∃ u l, g.L u = some l ∧ Chosen n g u ch.length ∧ ch = l.take ch.length
section
variable {n : Nat} {r r' : Nat → V} {g g' : G}
theorem Has.ext (e : Ext n r r' g g') {j : Nat} (hj : j < n) {u : Int} {k : Nat} (h : Has g j u k) : Has g' j u k := by
  obtain ⟨m, h1, h2⟩ := h
  obtain ⟨m', h3, h4⟩ := e.acc j hj u m h1
  exact ⟨m', h3, Nat.le_trans h2 h4⟩
theorem Chosen.ext (e : Ext n r r' g g') {u : Int} {k : Nat} (h : Chosen n g u k) : Chosen n g' u k := Maj.mono h fun j hj hh => hh.ext e hj
theorem chosen_len (c : Core n r g) {u : Int} {k : Nat} (h : Chosen n g u k) {l : Log} (hl : g.L u = some l) : k ≤ l.length := by
  obtain ⟨j, hj, ⟨m, h1, h2⟩, _⟩ := h.meet h
  obtain ⟨l2, h3, h4⟩ := c.bound j hj u m h1
  rw [hl] at h3; cases h3
  omega
theorem SG.ext (c : Core n r g) (e : Ext n r r' g g') {st : Nat} {v : Int} {log : Log} (h : SG n g st v log) : SG n g' st v log := by
  rcases h with h | ⟨u, l, h1, h2, h3, h4, h5⟩
  · exact .inl h
  · obtain ⟨l', k1, k2⟩ := e.L u l h2
    exact .inr ⟨u, l', h1, k1, h3.ext e, h4, by rw [h5, take_of_pre k2 (chosen_len c h3 h2)]⟩
theorem AG.ext (e : Ext n r r' g g') {j : Nat} (hj : j < n) {v : Int} {k : Nat} (h : AG g j v k) : AG g' j v k := h.imp id fun h => h.ext e hj
theorem CG.ext (e : Ext n r r' g g') {j : Nat} (hj : j < n) {v u : Int} {log : Log} (h : CG r g j v u log) : CG r' g' j v u log := by
  obtain ⟨h1, h2, h3, h4, l, h5, h6, h7⟩ := h
  obtain ⟨l', k1, k2⟩ := e.L u l h5
  exact ⟨h1, Int.le_trans h2 (e.view j hj), by rw [e.kept j hj u (by omega)]; exact h3, fun w a b => by rw [e.kept j hj w (by omega)]; exact h4 w a b, l', k1, by rw [e.I u l h5]; exact h6, h7.trans k2⟩
theorem Ch.ext (c : Core n r g) (e : Ext n r r' g g') {ch : Log} (h : Ch n g ch) : Ch n g' ch := by
  rcases h with h | ⟨u, l, h1, h2, h3⟩
  · exact .inl h
  · obtain ⟨l', k1, k2⟩ := e.L u l h1
    exact .inr ⟨u, l', k1, h2.ext e, by rw [← take_of_pre k2 (chosen_len c h2 h1)]; exact h3⟩
theorem Chosen.able {u : Int} {k : Nat} (h : Chosen n g u k) : Able n r g u k := Maj.mono h fun _ _ h => .inl h
/-- what is chosen in a view stands in all later ones -/
theorem chosen_later (c : Core n r g) {u v : Int} {k : Nat} (h : Chosen n g u k) (hk : 1 ≤ k) {l l' : Log} (hl : g.L u = some l) (hl' : g.L v = some l') (huv : u ≤ v) : l'.take k = l.take k ∧ k ≤ l'.length := by
  by_cases e : u = v
  · subst e
    rw [hl] at hl'; cases hl'
    exact ⟨rfl, chosen_len c h hl⟩
  · obtain ⟨l2, h1, h2, h3⟩ := c.safe v l' hl' u (by omega) k hk h.able
    rw [hl] at h1; cases h1
    have hp := (c.first v l' hl').2.1
    exact ⟨by rw [← take_of_pre hp h2]; exact h3, Nat.le_trans h2 hp.length_le⟩
/-- of two that have stayed one is a beginning of the other one -/
theorem ch_two (c : Core n r g) {a b : Log} (ha : Ch n g a) (hb : Ch n g b) : a <+: b ∨ b <+: a := by
  rcases ha with rfl | ⟨u, l, h1, h2, h3⟩
  · exact .inl (List.nil_prefix)
  · rcases hb with rfl | ⟨v, l', k1, k2, k3⟩
    · exact .inr (List.nil_prefix)
    · by_cases ea : a.length = 0
      · rw [List.length_eq_zero_iff] at ea; subst ea; exact .inl (List.nil_prefix)
      by_cases eb : b.length = 0
      · rw [List.length_eq_zero_iff] at eb; subst eb; exact .inr (List.nil_prefix)
      have key : ∀ (p q : Nat) (l : Log), l.take p <+: l.take q ∨ l.take q <+: l.take p := fun p q l => by
        rcases Nat.le_total p q with h | h
        · exact .inl (List.take_prefix_take_left h)
        · exact .inr (List.take_prefix_take_left h)
      rcases Int.le_total u v with h | h
      · have := (chosen_later c h2 (by omega) h1 k1 h).1
        rw [← this] at h3
        rw [h3, k3]
        exact key _ _ _
      · have := (chosen_later c k2 (by omega) k1 h1 h).1
        rw [← this] at k3
        rw [h3, k3]
        exact key _ _ _
/-- how much stays, at a later log -/
theorem SG.to (c : Core n r g) {st : Nat} {v w : Int} {log log' : Log} (h : SG n g st v log) (hvw : v ≤ w) {l : Log} (hl : g.L w = some l) (hI : g.I w <+: log') (hp : log' <+: l) (hq : v = w → log <+: l ∧ log.length ≤ log'.length) : SG n g st w log' := by
  rcases h with h | ⟨u, l1, h1, h2, h3, h4, h5⟩
  · exact .inl h
  · rcases Nat.eq_zero_or_pos st with h0 | h0
    · exact .inl h0
    by_cases e : u = w
    · subst e
      have ev : v = u := by omega
      obtain ⟨k1, k2⟩ := hq ev
      rw [hl] at h2; cases h2
      exact .inr ⟨u, l, Int.le_refl _, hl, h3, by omega, take_of_pre hp (by omega)⟩
    · obtain ⟨l2, k1, k2, k3⟩ := c.safe w l hl u (by omega) st h0 h3.able
      rw [h2] at k1; cases k1
      exact .inr ⟨u, l1, by omega, h2, h3, Nat.le_trans k2 hI.length_le, by rw [← take_of_pre hI k2]; exact k3⟩
end
end Go.Proofs.Ytndnjmgmdkkifaa.St
