/- Replicas together: each replica's own part, and what its calls make of it. -/
import Derived.Test.YtndnjmgmdkkifaaSt1
import Derived.Test.YtndnjmgmdkkifaaVw8
namespace Go.Proofs.Ytndnjmgmdkkifaa.St
open Go Go.RowKit Go.Proofs.Ytndnjmgmdkkifaa.New Go.Proofs.Ytndnjmgmdkkifaa.Vw Go.Proofs.Ytndnjmgmdkkifaa.Vw1
set_option linter.unusedVariables false
set_option linter.unusedSimpArgs false
open Classical

def upd {α : Type} (f : Nat → α) (i : Nat) (x : α) : Nat → α := fun k => if k = i then x else f k
theorem upd_same {α : Type} (f : Nat → α) (i : Nat) (x : α) : upd f i x i = x := if_pos rfl
theorem upd_other {α : Type} (f : Nat → α) {i k : Nat} (x : α) (h : k ≠ i) : upd f i x k = f k := if_neg h
theorem upd_upd {α : Type} (f : Nat → α) (i : Nat) (x y : α) : upd (upd f i x) i y = upd f i y := by
  funext k
  unfold upd
  split <;> rfl
theorem upd_self {α : Type} (f : Nat → α) (i : Nat) : upd f i (f i) = f := by
  funext k
  unfold upd
  split
  · next h => rw [h]
  · rfl
/-- a replica's own part -/
structure Rp (n : Nat) (r : Nat → V) (g : G) (i : Nat) : Prop where
  ok : OkV (r i)
  me : (r i).me = i
  many : (r i).many = n
  ack0 : (r i).acked.getD i 0 = 0
  chg0 : (r i).changes.getD i none = none
  ack : ∀ j, j < n → AG g j (r i).view ((r i).acked.getD j 0).toNat
  chg : ∀ j, j < n → ∀ x, (r i).changes.getD j none = some x → CG r g j (r i).view x.1 x.2
  stays : SG n g (r i).stays.toNat (r i).normal (r i).log
structure Inv (n : Nat) (r : Nat → V) (g : G) : Prop where
  core : Core n r g
  rep : ∀ i, i < n → Rp n r g i
section
variable {n : Nat} {r r' : Nat → V} {g g' : G} {i : Nat}
theorem Rp.ext (c : Core n r g) (e : Ext n r r' g g') (h : Rp n r g i) (hr : r' i = r i) : Rp n r' g' i := by
  obtain ⟨h1, h2, h3, h4, h5, h6, h7, h8⟩ := h
  refine ⟨by rw [hr]; exact h1, by rw [hr]; exact h2, by rw [hr]; exact h3, by rw [hr]; exact h4, by rw [hr]; exact h5, fun j hj => ?_, fun j hj x hx => ?_, ?_⟩
  · rw [hr]; exact (h6 j hj).ext e hj
  · rw [hr] at hx ⊢
    exact (h7 j hj x hx).ext e hj
  · rw [hr]; exact h8.ext c e
/-- what a call may make of a replica's part -/
def Good (n : Nat) (r : Nat → V) (g : G) (i : Nat) (s : V) : Prop := ∃ g', Core n (upd r i s) g' ∧ Ext n r (upd r i s) g g' ∧ Rp n (upd r i s) g' i
theorem Good.inv (h : Inv n r g) {s : V} (k : Good n r g i s) : ∃ g', Inv n (upd r i s) g' ∧ Ext n r (upd r i s) g g' := by
  obtain ⟨g', h1, h2, h3⟩ := k
  refine ⟨g', ⟨h1, fun j hj => ?_⟩, h2⟩
  by_cases q : j = i
  · rw [q]; exact h3
  · exact (h.rep j hj).ext h.core h2 (upd_other r s q)
theorem Good.self (h : Inv n r g) (hi : i < n) : Good n r g i (r i) := by
  rw [Good, upd_self]
  exact ⟨g, h.core, Ext.refl n r g, h.rep i hi⟩
/-- first one step, then another one -/
theorem Good.trans {s t : V} (a : Good n r g i s) (b : ∀ g1, Core n (upd r i s) g1 → Rp n (upd r i s) g1 i → Good n (upd r i s) g1 i t) : Good n r g i t := by
  obtain ⟨g1, h1, h2, h3⟩ := a
  obtain ⟨g2, k1, k2, k3⟩ := b g1 h1 h3
  rw [upd_upd] at k1 k2 k3
  exact ⟨g2, k1, h2.trans k2, k3⟩
/-! ### counting -/
theorem count_one (p q : Nat → Bool) : ∀ (n i : Nat), i < n → p i = true → q i = false → (∀ j, j < n → q j = true → p j = true) → (List.range n).countP q + 1 ≤ (List.range n).countP p
  | 0, i, h, _, _, _ => by omega
  | n + 1, i, h, hp, hq, hh => by
    rw [List.range_succ, List.countP_append, List.countP_append, List.countP_singleton, List.countP_singleton]
    by_cases e : i = n
    · subst e
      have : (List.range i).countP q ≤ (List.range i).countP p := List.countP_mono_left fun j hj hqj => hh j (by have := List.mem_range.1 hj; omega) hqj
      rw [hp, hq]
      simp
      omega
    · have ih := count_one p q n i (by omega) hp hq (fun j hj => hh j (by omega))
      have : (if q n = true then 1 else 0) ≤ (if p n = true then 1 else 0) := by
        cases e2 : q n with
        | false => simp
        | true => rw [hh n (by omega) e2]; simp
      omega
theorem count_getD {α : Type} (d : α) (q : α → Bool) : ∀ (a : List α) (n : Nat), a.length = n → a.countP q = (List.range n).countP (fun i => q (a.getD i d)) := fun a n hn => by
  have h : a = (List.range n).map (fun i => a.getD i d) := by
    apply List.ext_getElem
    · simp [hn]
    · intro i h1 h2
      simp [List.getD_eq_getElem?_getD, h1]
  conv => lhs; rw [h]
  rw [List.countP_map]
  rfl
theorem maj_of {P : Nat → Prop} {α : Type} (d : α) (q : α → Bool) (a : List α) (ha : a.length = n) (hi : i < n) (hp : P i) (hq : q (a.getD i d) = false) (hh : ∀ j, j < n → q (a.getD j d) = true → P j) (hm : 2 * ((a.countP q : Nat) + 1 : Int) > n) : Maj n P := by
  have h := count_one (fun j => decide (P j)) (fun j => q (a.getD j d)) n i hi (by simpa using hp) hq (fun j hj k => by simpa using hh j hj k)
  rw [← count_getD d q a n ha] at h
  unfold Maj cnt
  omega
/-! ### what stays -/
theorem reckonN_eq : ∀ (k : Nat) (s : V), reckonN k s = { s with stays := (reckonN k s).stays }
  | 0, s => rfl
  | k + 1, s => by
    unfold reckonN
    split
    · split
      · exact (reckonN_eq k _).trans rfl
      · rfl
    · rfl
theorem reckonN_SG (c : Core n r g) (hi : i < n) (p : Rp n r g i) : ∀ (k : Nat) (st : Int), 0 ≤ st → SG n g st.toNat (r i).normal (r i).log → 0 ≤ (reckonN k { r i with stays := st }).stays ∧ SG n g (reckonN k { r i with stays := st }).stays.toNat (r i).normal (r i).log
  | 0, st, h0, h => ⟨h0, h⟩
  | k + 1, st, h0, h => by
    unfold reckonN
    split
    · next h1 =>
      split
      · next h2 =>
        refine reckonN_SG c hi p k (st + 1) (by omega) ?_
        simp only [Bool.and_eq_true, decide_eq_true_eq] at h1
        obtain ⟨h3, h4⟩ := h1
        change ((r i).view % (r i).many == (r i).me && (r i).normal == (r i).view) = true at h3
        simp only [Bool.and_eq_true, beq_iff_eq] at h3
        have h4' : st < ((r i).log.length : Int) := h4
        have h2' : 2 * (((r i).acked.countP (fun x => decide (x > st)) : Nat) + 1 : Int) > (r i).many := by
          have := h2
          unfold V.mostB V.others at this
          simpa using this
        rw [p.many] at h2'
        obtain ⟨l, k1, k2, k3⟩ := c.log i hi
        refine .inr ⟨(r i).normal, l, Int.le_refl _, k1, ?_, by omega, take_of_pre k3 (by omega)⟩
        refine maj_of (i := i) 0 (fun x => decide (x > st)) (r i).acked (by rw [p.ok.alen, p.many]; rfl) hi ⟨_, c.at_ i hi, by omega⟩ (by rw [p.ack0]; simp; omega) (fun j hj hq => ?_) h2'
        have hq' : (r i).acked.getD j 0 > st := of_decide_eq_true hq
        rcases p.ack j hj with e | ⟨m, e1, e2⟩
        · omega
        · rw [h3.2]
          exact ⟨m, e1, by omega⟩
      · exact ⟨h0, h⟩
    · exact ⟨h0, h⟩
theorem good_reckon (c : Core n r g) (hi : i < n) (p : Rp n r g i) : Good n r g i (r i).reckon := by
  obtain ⟨h1, h2⟩ := reckonN_SG c hi p (r i).log.length (r i).stays p.ok.stays.1 p.stays
  have he : (r i).reckon = { r i with stays := (r i).reckon.stays } := reckonN_eq _ _
  have hc := core_view (r' := upd r i (r i).reckon) c (fun j hj => by
      by_cases q : j = i
      · rw [q, upd_same, he]; exact Int.le_refl _
      · rw [upd_other _ _ q]; exact Int.le_refl _) (fun j hj => by
      by_cases q : j = i
      · rw [q, upd_same, he]
      · rw [upd_other _ _ q]) (fun j hj => by
      by_cases q : j = i
      · rw [q, upd_same, he]
      · rw [upd_other _ _ q])
  have e1 : (r i).reckon.view = (r i).view := by rw [he]
  have e2 : (r i).reckon.normal = (r i).normal := by rw [he]
  have e3 : (r i).reckon.log = (r i).log := by rw [he]
  have e4 : (r i).reckon.me = (r i).me := by rw [he]
  have e5 : (r i).reckon.many = (r i).many := by rw [he]
  have e6 : (r i).reckon.acked = (r i).acked := by rw [he]
  have e7 : (r i).reckon.changes = (r i).changes := by rw [he]
  refine ⟨g, hc.1, hc.2, ⟨by rw [upd_same]; exact okv_reckon p.ok, by rw [upd_same, e4]; exact p.me, by rw [upd_same, e5]; exact p.many, by rw [upd_same, e6]; exact p.ack0, by rw [upd_same, e7]; exact p.chg0, ?_, ?_, ?_⟩⟩
  · rw [upd_same, e1, e6]; exact p.ack
  · rw [upd_same, e1, e7]; exact fun j hj x hx => (p.chg j hj x hx).ext hc.2 hj
  · rw [upd_same, e2, e3]; exact h2
theorem rep_getD {α : Type} (k j : Nat) (d : α) : (List.replicate k d).getD j d = d := by
  rw [List.getD_eq_getElem?_getD, List.getElem?_replicate]
  split <;> rfl
/-- the view rises: nobody acked, or handed on -/
theorem good_fresh (c : Core n r g) (hi : i < n) (p : Rp n r g i) (v : Int) (hv : (r i).view ≤ v) (hm : v ≤ 281474976710656) : Good n r g i ((r i).fresh v) := by
  have hc := core_view (r' := upd r i ((r i).fresh v)) c (fun j hj => by
      by_cases q : j = i
      · rw [q, upd_same]; exact hv
      · rw [upd_other _ _ q]; exact Int.le_refl _) (fun j hj => by
      by_cases q : j = i
      · rw [q, upd_same]; rfl
      · rw [upd_other _ _ q]) (fun j hj => by
      by_cases q : j = i
      · rw [q, upd_same]; rfl
      · rw [upd_other _ _ q])
  refine ⟨g, hc.1, hc.2, ⟨by rw [upd_same]; exact okv_fresh p.ok v hv hm, by rw [upd_same]; exact p.me, by rw [upd_same]; exact p.many, ?_, ?_, ?_, ?_, ?_⟩⟩
  · rw [upd_same]; exact rep_getD _ _ _
  · rw [upd_same]; exact rep_getD _ _ _
  · rw [upd_same]
    intro j hj
    left
    show ((List.replicate (r i).many.toNat (0 : Int)).getD j 0).toNat = 0
    rw [rep_getD]; rfl
  · rw [upd_same]
    intro j hj x hx
    have hx : (List.replicate (r i).many.toNat (none : Option (Int × Log))).getD j none = some x := hx
    rw [rep_getD] at hx
    cases hx
  · rw [upd_same]; exact p.stays.ext c hc.2
end
end Go.Proofs.Ytndnjmgmdkkifaa.St
