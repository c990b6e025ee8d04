/- Replicas together: a team, its moves, and what stays at any of them. -/
import Derived.Test.YtndnjmgmdkkifaaSt4
import Derived.Test.YtndnjmgmdkkifaaVw12
namespace Go.Proofs.Ytndnjmgmdkkifaa.St
open Go Go.RowKit Go.Proofs.Ytndnjmgmdkkifaa.New Go.Proofs.Ytndnjmgmdkkifaa.Vw Go.Proofs.Ytndnjmgmdkkifaa.Vw1
set_option linter.unusedVariables false
set_option linter.unusedSimpArgs false
open Classical

/-- a letter on its way -/
structure Fly where
  fr : Nat
  to_ : Nat
  l : Ltr
/-- a move -/
structure Move where
  what : Int
  who : Int
  to_ : Int
  at_ : Int
  entry : ByteArray
  lost : Bool
abbrev Team := (Nat → V) × List Fly
/-- a replica's new part, or, lost, begun anew -/
def fin (m : Move) (t : Team) (i : Nat) (s : V) (way : List Fly) : Team := (upd t.1 i (if m.lost = true then anew (t.1 i) else s), way)
def moveT (m : Move) (t : Team) : Team :=
  if m.what = 0 ∨ m.what = 1 then fin m t m.who.toNat ((t.1 m.who.toNat).propose m.entry).1 t.2
  else if m.what = 2 then fin m t m.who.toNat (t.1 m.who.toNat).turn.1 t.2
  else if m.what = 3 ∨ m.what = 4 then (t.1, if ((t.1 m.who.toNat).send m.to_).2 = true ∧ t.2.length < 200 then t.2 ++ [⟨m.who.toNat, m.to_.toNat, ((t.1 m.who.toNat).send m.to_).1⟩] else t.2)
  else if 5 ≤ m.what ∧ m.what ≤ 8 then
    (if t.2.length = 0 ∨ m.at_ < 0 then t
     else
      match t.2[(m.at_ % t.2.length).toNat]? with
      | none => t
      | some f =>
        let way := if m.what = 7 then t.2 else t.2.eraseIdx (m.at_ % t.2.length).toNat
        if m.what = 8 then (t.1, way) else fin m t f.to_ ((t.1 f.to_).take f.fr f.l).1 way)
  else (upd t.1 m.who.toNat (if m.lost = true ∨ m.what = 9 then anew (t.1 m.who.toNat) else t.1 m.who.toNat), t.2)
/-- what always holds of a team; ch: what has stayed -/
structure InvT (n : Nat) (t : Team) (ch : Log) : Prop where
  ghost : ∃ g, Inv n t.1 g ∧ (∀ f ∈ t.2, f.fr < n ∧ f.to_ < n ∧ LG n t.1 g f.fr f.l) ∧ Ch n g ch
  way : t.2.length ≤ 200
section
variable {n : Nat} {t : Team} {ch : Log}
theorem inv_fin (h : InvT n t ch) {i : Nat} (hi : i < n) (m : Move) (s : V) (way : List Fly) (hw : ∀ f ∈ way, f ∈ t.2) (hl : way.length ≤ 200) (hg : ∀ g, Inv n t.1 g → (∀ f ∈ t.2, f.fr < n ∧ f.to_ < n ∧ LG n t.1 g f.fr f.l) → Good n t.1 g i s) : InvT n (fin m t i s way) ch := by
  obtain ⟨⟨g, h1, h2, h3⟩, h4⟩ := h
  have key : Good n t.1 g i (if m.lost = true then anew (t.1 i) else s) := by
    split
    · exact good_anew h1.core hi (h1.rep i hi)
    · exact hg g h1 h2
  obtain ⟨g', k1, k2⟩ := key.inv h1
  exact ⟨⟨g', k1, fun f hf => by
    obtain ⟨a, b, c⟩ := h2 f (hw f hf)
    exact ⟨a, b, c.ext h1.core k2 a⟩, h3.ext h1.core k2⟩, hl⟩
theorem send_to {s : V} {k : Int} (h : (s.send k).2 = true) : 0 ≤ k ∧ k < s.many := by
  unfold V.send at h
  split at h
  · cases h
  · next e =>
    have : s.otherB k = true := by simpa using e
    exact other_facts this
theorem inv_move (h : InvT n t ch) (m : Move) (h0 : 0 ≤ m.who) (h1 : m.who < n) : InvT n (moveT m t) ch := by
  have hi : m.who.toNat < n := by omega
  unfold moveT
  split
  · exact inv_fin h hi m _ _ (fun f hf => hf) h.way fun g k _ => good_propose k.core hi (k.rep _ hi) _
  · split
    · exact inv_fin h hi m _ _ (fun f hf => hf) h.way fun g k _ => good_turn k.core hi (k.rep _ hi)
    · split
      · obtain ⟨⟨g, k1, k2, k3⟩, k4⟩ := h
        refine ⟨⟨g, k1, ?_, k3⟩, ?_⟩
        · intro f hf
          change f ∈ (if _ then _ else _) at hf
          split at hf
          · next hc =>
            rw [List.mem_append, List.mem_singleton] at hf
            rcases hf with hf | rfl
            · exact k2 f hf
            · have := send_to hc.1
              rw [(k1.rep _ hi).many] at this
              exact ⟨hi, by show m.to_.toNat < n; omega, lg_send k1.core hi (k1.rep _ hi) _ hc.1⟩
          · exact k2 f hf
        · show (if _ then _ else _ : List Fly).length ≤ 200
          split
          · next hc => rw [List.length_append, List.length_singleton]; have := hc.2; omega
          · exact k4
      · split
        · split
          · exact h
          · split
            · exact h
            · next f hf =>
              have hmem : f ∈ t.2 := List.mem_of_getElem? hf
              have hway : ∀ x ∈ (if m.what = 7 then t.2 else t.2.eraseIdx (m.at_ % t.2.length).toNat), x ∈ t.2 := fun x hx => by
                split at hx
                · exact hx
                · exact List.mem_of_mem_eraseIdx hx
              have hlen : (if m.what = 7 then t.2 else t.2.eraseIdx (m.at_ % t.2.length).toNat).length ≤ 200 := by
                have := h.way
                split
                · exact this
                · have := List.length_eraseIdx_le t.2 (m.at_ % t.2.length).toNat
                  omega
              dsimp only
              split
              · obtain ⟨⟨g, k1, k2, k3⟩, k4⟩ := h
                exact ⟨⟨g, k1, fun x hx => k2 x (hway x hx), k3⟩, hlen⟩
              · obtain ⟨g0, k1, k2, k3⟩ := h.ghost
                have hto := (k2 f hmem).2.1
                exact inv_fin h hto m _ _ hway hlen fun g q1 q2 => good_take q1.core hto (q1.rep _ hto) (q2 f hmem).1 _ (q2 f hmem).2.2
        · obtain ⟨⟨g, k1, k2, k3⟩, k4⟩ := h
          have key : Good n t.1 g m.who.toNat (if m.lost = true ∨ m.what = 9 then anew (t.1 m.who.toNat) else t.1 m.who.toNat) := by
            split
            · exact good_anew k1.core hi (k1.rep _ hi)
            · exact Good.self k1 hi
          obtain ⟨g', q1, q2⟩ := key.inv k1
          exact ⟨⟨g', q1, fun f hf => by
            obtain ⟨a, b, c⟩ := k2 f hf
            exact ⟨a, b, c.ext k1.core q2 a⟩, k3.ext k1.core q2⟩, k4⟩
/-- what stays at one of them -/
def own (t : Team) (i : Nat) : Log := (t.1 i).log.take (t.1 i).stays.toNat
theorem InvT.rep (h : InvT n t ch) {i : Nat} (hi : i < n) : OkV (t.1 i) ∧ (t.1 i).me = i ∧ (t.1 i).many = n ∧ 0 ≤ (t.1 i).stays ∧ (t.1 i).stays.toNat ≤ (t.1 i).log.length := by
  obtain ⟨⟨g, h1, h2, h3⟩, h4⟩ := h
  have p := h1.rep i hi
  refine ⟨p.ok, p.me, p.many, p.ok.stays.1, ?_⟩
  rcases p.stays with e | ⟨u, l, a1, a2, a3, a4, a5⟩
  · omega
  · exact a4
theorem own_ch (h : InvT n t ch) {i : Nat} (hi : i < n) {g : G} (k : Inv n t.1 g) : Ch n g (own t i) := by
  have p := k.rep i hi
  unfold own
  rcases p.stays with e | ⟨u, l, a1, a2, a3, a4, a5⟩
  · rw [e]; exact .inl rfl
  · right
    have hlen : ((t.1 i).log.take (t.1 i).stays.toNat).length = (t.1 i).stays.toNat := by rw [List.length_take]; omega
    exact ⟨u, l, a2, by rw [hlen]; exact a3, by rw [hlen]; exact a5⟩
/-- what stays at one of them, and what has stayed, go together -/
theorem own_step (h : InvT n t ch) {i : Nat} (hi : i < n) : (ch <+: own t i ∧ InvT n t (own t i)) ∨ own t i <+: ch := by
  obtain ⟨⟨g, h1, h2, h3⟩, h4⟩ := id h
  have ho := own_ch h hi h1
  rcases ch_two h1.core h3 ho with k | k
  · exact .inl ⟨k, ⟨g, h1, h2, ho⟩, h4⟩
  · exact .inr k
theorem maj_all {n : Nat} {P : Nat → Prop} (hn : 1 ≤ n) (h : ∀ j, j < n → P j) : Maj n P := by
  have e : cnt n P = (List.range n).length := by
    unfold cnt
    rw [List.countP_eq_length]
    intro j hj
    exact decide_eq_true (h j (List.mem_range.1 hj))
  rw [List.length_range] at e
  unfold Maj
  omega
/-- at the start -/
theorem inv_start (n : Nat) (hn : 1 ≤ n) (hn5 : n ≤ 5) (r : Nat → V) (hr : ∀ i, i < n → r i = made i n 0 0 []) : InvT n (r, []) [] := by
  have mk : ∀ i, i < n → OkV (made i n 0 0 []) := fun i hi =>
    ⟨⟨by show (1 : Int) ≤ (n : Int); omega, by show (n : Int) ≤ 5; omega⟩, ⟨by show (0 : Int) ≤ (i : Int); omega, by show (i : Int) < (n : Int); omega⟩, ⟨Int.le_refl _, Int.le_refl _⟩, by show (0 : Int) ≤ _; omega, by show rightL [] = true; decide, by show (0 : Int) ≤ 0 ∧ (0 : Int) ≤ 96; omega, by simp [made], fun m hm => by simp [made, List.mem_replicate] at hm; omega, by simp [made], fun c hc x hx => by simp [made, List.mem_replicate] at hc; rw [hc.2] at hx; cases hx⟩
  refine ⟨⟨⟨fun u => if u = 0 then some [] else none, fun _ => [], fun j u => if u = 0 then some 0 else none⟩, ⟨⟨fun i hi => ?_, fun i hi u hu => ?_, fun i hi => ?_, fun i hi u m hm => ?_, fun u l hl => ?_, fun u l hl => ?_, fun v l hl u hu k hk ha => ?_⟩, fun i hi => ?_⟩, (fun f hf => by cases hf), .inl rfl⟩, by simp⟩
  · show (if (r i).normal = 0 then some 0 else none) = some (r i).log.length
    rw [hr i hi]; rfl
  · show (if u = 0 then some 0 else none) = none
    have hu : (r i).normal < u := hu
    rw [hr i hi] at hu
    have hu : (0 : Int) < u := hu
    rw [if_neg (by omega)]
  · show ∃ l, (if (r i).normal = 0 then some [] else none) = some l ∧ [] <+: (r i).log ∧ (r i).log <+: l
    rw [hr i hi]
    exact ⟨[], rfl, List.prefix_refl _, List.prefix_refl _⟩
  · dsimp only at hm ⊢
    split at hm
    · cases hm
      exact ⟨[], by rw [if_pos (by assumption)], Nat.le_refl _⟩
    · cases hm
  · dsimp only at hl
    split at hl
    · next e =>
      cases hl
      subst e
      exact ⟨Int.le_refl _, List.prefix_refl _, fun i hi _ => rfl⟩
    · cases hl
  · dsimp only at hl
    split at hl
    · next e =>
      subst e
      refine maj_all hn fun j hj => ?_
      show 0 ≤ (r j).view
      rw [hr j hj]
      exact Int.le_refl _
    · cases hl
  · dsimp only at hl
    split at hl
    · next e =>
      exfalso
      subst e
      obtain ⟨j, hj, hor, _⟩ := ha.meet ha
      rcases hor with ⟨m, hm, _⟩ | hv
      · dsimp only at hm
        rw [if_neg (by omega)] at hm
        cases hm
      · have hv : (r j).view ≤ u := hv
        rw [hr j hj] at hv
        have hv : (0 : Int) ≤ u := hv
        omega
    · cases hl
  · refine ⟨by show OkV (r i); rw [hr i hi]; exact mk i hi, by show (r i).me = i; rw [hr i hi]; rfl, by show (r i).many = n; rw [hr i hi]; rfl, ?_, ?_, fun j hj => ?_, fun j hj x hx => ?_, ?_⟩
    · show (r i).acked.getD i 0 = 0
      rw [hr i hi]; exact rep_getD _ _ _
    · show (r i).changes.getD i none = none
      rw [hr i hi]; exact rep_getD _ _ _
    · left
      show ((r i).acked.getD j 0).toNat = 0
      rw [hr i hi]
      show ((List.replicate (n : Int).toNat (0 : Int)).getD j 0).toNat = 0
      rw [rep_getD]; rfl
    · have hx : (r i).changes.getD j none = some x := hx
      rw [hr i hi] at hx
      have hx : (List.replicate (n : Int).toNat (none : Option (Int × Log))).getD j none = some x := hx
      rw [rep_getD] at hx; cases hx
    · left
      show (r i).stays.toNat = 0
      rw [hr i hi]; rfl
end
end Go.Proofs.Ytndnjmgmdkkifaa.St
