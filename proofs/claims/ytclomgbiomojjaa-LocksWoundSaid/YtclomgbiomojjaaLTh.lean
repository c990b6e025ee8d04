/- Holds, of lists alone: what may be held, who holds, what is taken, whom it wounds, what is let go. -/
import Derived.Test.YtclomgbiomojjaaLTake
import Derived.Test.YtclomgbiomojjaaLDel
import Derived.Test.YtclomgbiomojjaaLFree
import Derived.Test.YtclomgbiomojjaaLess
namespace Go.Proofs.Ytclomgbiomojjaa.LTh
open Go Go.RowKit Go.Proofs.Ytclomgbiomojjaa.Rune Go.Proofs.Ytclomgbiomojjaa.Split Go.Proofs.Ytclomgbiomojjaa.PathF Go.Proofs.Ytclomgbiomojjaa.Q Go.Proofs.Ytclomgbiomojjaa.LTk0 Go.Proofs.Ytclomgbiomojjaa.LTk1 Go.Proofs.Ytclomgbiomojjaa.LSet Go.Proofs.Ytclomgbiomojjaa.LTake Go.Proofs.Ytclomgbiomojjaa.LHeld Go.Proofs.YtclomgbiomojjaaW.PrintWords
open Go.Proofs.Ytclomgbiomojjaa.LRgt (num okFrom ageOk aheadB rightB)
set_option linter.unusedVariables false
set_option linter.unusedSimpArgs false

abbrev S := S34
abbrev rd (l : List S) (i : Int) : S := rd_T34 l i
theorem rd_get (l : List S) (i : Nat) (h : i < l.length) : rd l (i : Int) = l[i] := by
  unfold rd rd_T34; simp [h]
theorem rd_mid (pre post : List S) (x : S) : rd (pre ++ x :: post) (pre.length : Int) = x := by
  rw [rd_get _ _ (by simp)]; simp
def Less (x y : S) : Prop := lessB x.f0 y.f0 = true
def okE (x : S) : Bool := isP x.f0 && (num x.f1 && num x.f2)
theorem num_iff (n : Int) : num n = true ↔ 0 ≤ n ∧ n ≤ 281474976710656 := by unfold LRgt.num; simp
structure RightH (l : List S) : Prop where
  ok : ∀ x ∈ l, okE x = true
  up : l.Pairwise Less
  age : ∀ x ∈ l, ∀ y ∈ l, x.f1 = y.f1 → x.f2 = y.f2
theorem okE_iff (x : S) : okE x = true ↔ isP x.f0 = true ∧ (0 ≤ x.f1 ∧ x.f1 ≤ 281474976710656) ∧ 0 ≤ x.f2 ∧ x.f2 ≤ 281474976710656 := by
  unfold okE; rw [Bool.and_eq_true, Bool.and_eq_true, num_iff, num_iff]
theorem ageOk_iff (s : List S) (x : S) : ageOk s x = true ↔ ∀ y ∈ s, y.f1 = x.f1 → y.f2 = x.f2 := by
  unfold LRgt.ageOk
  rw [List.all_eq_true]
  refine forall_congr' fun y => forall_congr' fun hy => ?_
  rw [Bool.or_eq_true, bne_iff_ne, beq_iff_eq]
  by_cases e : y.f1 = x.f1 <;> simp [e]
theorem okFrom_iff : ∀ (r : List S) (prev : Option S) (seen : List S), okFrom prev seen r = true ↔
    (∀ x ∈ r, okE x = true) ∧ r.Pairwise Less ∧ (∀ p, prev = some p → ∀ x ∈ r, Less p x) ∧ (∀ x ∈ r, ageOk seen x = true) ∧ ∀ x ∈ r, ∀ y ∈ r, x.f1 = y.f1 → x.f2 = y.f2
  | [], prev, seen => by simp [LRgt.okFrom]
  | x :: t, prev, seen => by
    unfold LRgt.okFrom
    simp only [Bool.and_eq_true]
    rw [okFrom_iff t (some x) (x :: seen)]
    have hah : aheadB prev x = true ↔ ∀ p, prev = some p → Less p x := by
      cases prev with
      | none => simp [LRgt.aheadB]
      | some p => simp [LRgt.aheadB]; rfl
    rw [hah]
    constructor
    · rintro ⟨h1, h2, h3, h4, h5, h6, h7, h8, h9, h10⟩
      have h8 : ∀ y ∈ t, Less x y := h8 x rfl
      have hx : ∀ y ∈ t, x.f1 = y.f1 → x.f2 = y.f2 := fun y hy => (ageOk_iff _ _).1 (h9 y hy) x (by simp)
      refine ⟨fun y hy => ?_, List.pairwise_cons.2 ⟨h8, h7⟩, fun p hp y hy => ?_, fun y hy => ?_, fun y hy z hz e => ?_⟩
      · rcases List.mem_cons.1 hy with rfl | hy
        · unfold okE; rw [h1, h2, h3]; rfl
        · exact h6 y hy
      · rcases List.mem_cons.1 hy with rfl | hy
        · exact h5 p hp
        · exact lessB_trans (h5 p hp) (h8 y hy)
      · rcases List.mem_cons.1 hy with rfl | hy
        · exact h4
        · exact (ageOk_iff _ _).2 fun z hz => (ageOk_iff _ _).1 (h9 y hy) z (by simp [hz])
      · rcases List.mem_cons.1 hy with hy1 | hy1
        · rw [hy1] at e ⊢
          rcases List.mem_cons.1 hz with hz1 | hz1
          · rw [hz1]
          · exact hx z hz1 e
        · rcases List.mem_cons.1 hz with hz1 | hz1
          · rw [hz1] at e ⊢; exact (hx y hy1 e.symm).symm
          · exact h10 y hy1 z hz1 e
    · rintro ⟨h1, h2, h3, h4, h5⟩
      have h6 := List.pairwise_cons.1 h2
      have hxo := h1 x (by simp)
      unfold okE at hxo
      simp only [Bool.and_eq_true] at hxo
      refine ⟨hxo.1, hxo.2.1, hxo.2.2, h4 x (by simp), fun p hp => h3 p hp x (by simp), fun y hy => h1 y (by simp [hy]), h6.2, fun p hp => ?_, fun y hy => ?_, fun y hy z hz => h5 y (by simp [hy]) z (by simp [hz])⟩
      · obtain rfl := Option.some.inj hp
        exact h6.1
      · refine (ageOk_iff _ _).2 fun z hz => ?_
        rcases List.mem_cons.1 hz with rfl | hz
        · exact h5 _ (by simp) y (by simp [hy])
        · exact (ageOk_iff _ _).1 (h4 y (by simp [hy])) z hz
theorem right_iff (l : List S) : rightB l = true ↔ RightH l := by
  unfold LRgt.rightB
  rw [okFrom_iff]
  constructor
  · rintro ⟨h1, h2, _, _, h5⟩; exact ⟨h1, h2, h5⟩
  · rintro ⟨h1, h2, h3⟩; exact ⟨h1, h2, fun p hp => (by cases hp), fun x _ => (by simp [LRgt.ageOk]), h3⟩
theorem right_nil : RightH [] := ⟨by simp, List.Pairwise.nil, by simp⟩
/-! ### lists that rise -/
theorem less_irr (x : S) : ¬ Less x x := fun h => by unfold Less at h; rw [lessB_irrefl] at h; cases h
theorem uniq {l : List S} (h : l.Pairwise Less) {y z : S} (hy : y ∈ l) (hz : z ∈ l) (e : y.f0 = z.f0) : y = z := by
  obtain ⟨i, hi, rfl⟩ := List.getElem_of_mem hy
  obtain ⟨j, hj, rfl⟩ := List.getElem_of_mem hz
  have hp := List.pairwise_iff_getElem.1 h
  rcases Nat.lt_trichotomy i j with c | c | c
  · have := hp i j hi hj c; unfold Less at this; rw [e, lessB_irrefl] at this; cases this
  · subst c; rfl
  · have := hp j i hj hi c; unfold Less at this; rw [← e, lessB_irrefl] at this; cases this
theorem up_head {x y : S} {s t : List S} (h1 : (x :: s).Pairwise Less) (h2 : (y :: t).Pairwise Less) (h : ∀ z, z ∈ x :: s ↔ z ∈ y :: t) : x = y := by
  have a1 := List.pairwise_cons.1 h1
  have a2 := List.pairwise_cons.1 h2
  rcases List.mem_cons.1 ((h x).1 (List.mem_cons_self)) with e | e
  · exact e
  · rcases List.mem_cons.1 ((h y).2 (List.mem_cons_self)) with e' | e'
    · exact e'.symm
    · exact absurd (lessB_trans (a1.1 y e') (a2.1 x e)) (less_irr x)
theorem up_eq : ∀ {a b : List S}, a.Pairwise Less → b.Pairwise Less → (∀ z, z ∈ a ↔ z ∈ b) → a = b
  | [], [], _, _, _ => rfl
  | [], y :: t, _, _, h => absurd ((h y).2 List.mem_cons_self) (by simp)
  | x :: s, [], _, _, h => absurd ((h x).1 List.mem_cons_self) (by simp)
  | x :: s, y :: t, h1, h2, h => by
    obtain rfl := up_head h1 h2 h
    have a1 := List.pairwise_cons.1 h1
    have a2 := List.pairwise_cons.1 h2
    rw [up_eq a1.2 a2.2 (fun z => ?_)]
    constructor
    · intro hz
      rcases List.mem_cons.1 ((h z).1 (List.mem_cons_of_mem _ hz)) with e | e
      · subst e; exact absurd (a1.1 z hz) (less_irr z)
      · exact e
    · intro hz
      rcases List.mem_cons.1 ((h z).2 (List.mem_cons_of_mem _ hz)) with e | e
      · subst e; exact absurd (a2.1 z hz) (less_irr z)
      · exact e
/-! ### a hold's place -/
theorem cmp_lt (p : ByteArray) (x : S) : cmpP p x < 0 ↔ lessB x.f0 p = true := by
  have := (cmp_less (L x.f0) (L p)).1
  unfold PathF.lessB
  rw [toL, toL]
  exact this
theorem cmp_zero (p : ByteArray) (x : S) : cmpP p x = 0 ↔ x.f0 = p := by
  have := (cmp_less (L x.f0) (L p)).2
  exact this.trans ⟨fun h => L_inj h, fun h => by rw [h]⟩
theorem bs_spec (cmp : S → Int) (l : List S) (n : Nat) (hmono : ∀ i j : Nat, i < j → j < n → cmp (rd l (j : Int)) < 0 → cmp (rd l (i : Int)) < 0) : ∀ (k i j : Nat), j - i ≤ k → i ≤ j → j ≤ n →
    (∀ m : Nat, m < i → cmp (rd l (m : Int)) < 0) → (∀ m : Nat, j ≤ m → m < n → ¬ cmp (rd l (m : Int)) < 0) →
    (∀ m : Nat, m < BHold.bs cmp l k i j → cmp (rd l (m : Int)) < 0) ∧ (∀ m : Nat, BHold.bs cmp l k i j ≤ m → m < n → ¬ cmp (rd l (m : Int)) < 0) ∧ BHold.bs cmp l k i j ≤ n
  | 0, i, j, hk, hij, hj, h1, h2 => by
    obtain rfl : i = j := by omega
    exact ⟨h1, h2, hj⟩
  | k + 1, i, j, hk, hij, hj, h1, h2 => by
    unfold BHold.bs
    by_cases hlt : i < j
    · rw [if_pos hlt]
      by_cases hc : cmp (rd_T34 l ((i + j) / 2 : Nat)) < 0
      · rw [if_pos hc]
        refine bs_spec cmp l n hmono k _ _ (by omega) (by omega) hj (fun m hm => ?_) h2
        by_cases e : m = (i + j) / 2
        · rw [e]; exact hc
        · exact hmono m ((i + j) / 2) (by omega) (by omega) hc
      · rw [if_neg hc]
        refine bs_spec cmp l n hmono k _ _ (by omega) (by omega) (by omega) h1 (fun m hm hmn => ?_)
        by_cases e : m = (i + j) / 2
        · rw [e]; exact hc
        · intro hm2
          exact hc (hmono ((i + j) / 2) m (by omega) hmn hm2)
    · rw [if_neg hlt]
      obtain rfl : i = j := by omega
      exact ⟨h1, h2, hj⟩
theorem up_get {l : List S} (h : l.Pairwise Less) {i j : Nat} (hij : i < j) (hj : j < l.length) : lessB (rd l (i : Int)).f0 (rd l (j : Int)).f0 = true := by
  rw [rd_get l i (by omega), rd_get l j hj]
  exact List.pairwise_iff_getElem.1 h i j (by omega) hj hij
theorem at_spec {l : List S} (h : l.Pairwise Less) (p : ByteArray) : at_ p l ≤ l.length ∧ (∀ m : Nat, m < at_ p l → lessB (rd l (m : Int)).f0 p = true) ∧ ∀ m : Nat, at_ p l ≤ m → m < l.length → lessB (rd l (m : Int)).f0 p = false := by
  obtain ⟨h1, h2, h3⟩ := bs_spec (cmpP p) l l.length (fun i j hij hj hc => (cmp_lt p _).2 (lessB_trans (up_get h hij hj) ((cmp_lt p _).1 hc))) l.length 0 l.length (by omega) (by omega) (by omega) (fun m hm => absurd hm (by omega)) (fun m hm hm2 => absurd hm2 (by omega))
  exact ⟨h3, fun m hm => (cmp_lt p _).1 (h1 m hm), fun m hm hm2 => by
    have := h2 m hm hm2
    rw [cmp_lt] at this
    simpa using this⟩
theorem parts {l : List S} (h : l.Pairwise Less) (p : ByteArray) : (∀ y ∈ l.take (at_ p l), lessB y.f0 p = true) ∧ ∀ y ∈ l.drop (at_ p l), lessB y.f0 p = false := by
  obtain ⟨h1, h2, h3⟩ := at_spec h p
  constructor
  · intro y hy
    obtain ⟨j, hj, rfl⟩ := List.getElem_of_mem hy
    rw [List.getElem_take]
    simp at hj
    have := h2 j (by omega)
    rwa [rd_get l j (by omega)] at this
  · intro y hy
    obtain ⟨j, hj, rfl⟩ := List.getElem_of_mem hy
    rw [List.getElem_drop]
    simp at hj
    have := h3 (at_ p l + j) (by omega) (by omega)
    rwa [rd_get l _ (by omega)] at this
theorem own_iff {l : List S} (h : l.Pairwise Less) (p : ByteArray) : own_ p l = true ↔ ∃ x ∈ l, x.f0 = p := by
  obtain ⟨h1, h2⟩ := parts h p
  unfold own_ BHold.bsB
  constructor
  · intro e
    simp only [Bool.and_eq_true, decide_eq_true_eq] at e
    exact ⟨_, List.getElem_mem e.1, by rw [← rd_get l _ e.1]; exact (cmp_zero p _).1 e.2⟩
  · rintro ⟨x, hx, rfl⟩
    have hx2 : x ∈ l.take (at_ x.f0 l) ++ l.drop (at_ x.f0 l) := by rw [List.take_append_drop]; exact hx
    rcases List.mem_append.1 hx2 with hx3 | hx3
    · have := h1 x hx3; rw [lessB_irrefl] at this; cases this
    · have hlt : at_ x.f0 l < l.length := by
        rcases Nat.lt_or_ge (at_ x.f0 l) l.length with c | c
        · exact c
        · rw [List.drop_eq_nil_of_le c] at hx3; cases hx3
      rw [List.drop_eq_getElem_cons hlt] at hx3 h2
      have hp : (l[at_ x.f0 l] :: l.drop (at_ x.f0 l + 1)).Pairwise Less := by
        rw [← List.drop_eq_getElem_cons hlt]; exact h.sublist (List.drop_sublist _ _)
      have e : x = l[at_ x.f0 l] := by
        rcases List.mem_cons.1 hx3 with e | e
        · exact e
        · have h5 := (List.pairwise_cons.1 hp).1 x e
          have h6 := h2 _ List.mem_cons_self
          unfold Less at h5; rw [h6] at h5; cases h5
      simp only [Bool.and_eq_true, decide_eq_true_eq]
      refine ⟨hlt, (cmp_zero _ _).2 ?_⟩
      have : rd l (at_ x.f0 l : Nat) = x := by rw [rd_get l _ hlt]; exact e.symm
      show (rd l (at_ x.f0 l : Nat)).f0 = _
      rw [this]
structure Ins (l : List S) (a1 a2 : Int) (d : ByteArray) (m : List S) : Prop where
  up : m.Pairwise Less
  mem : ∀ y, y ∈ m ↔ y ∈ l ∨ (y = ⟨d, a1, a2⟩ ∧ ∀ x ∈ l, x.f0 ≠ d)
  len : l.length ≤ m.length
theorem insT_is {l : List S} (h : l.Pairwise Less) (a1 a2 : Int) (d : ByteArray) : Ins l a1 a2 d (insT a1 a2 l d) := by
  unfold insT
  by_cases c : own_ d l = true
  · rw [if_pos c]
    obtain ⟨x, hx, e⟩ := (own_iff h d).1 c
    exact ⟨h, fun y => ⟨.inl, fun h => h.elim id fun h => absurd e (h.2 x hx)⟩, Nat.le_refl _⟩
  · rw [if_neg c]
    have hn : ∀ x ∈ l, x.f0 ≠ d := fun x hx e => c ((own_iff h d).2 ⟨x, hx, e⟩)
    obtain ⟨h1, h2⟩ := parts h d
    have hl : l = l.take (at_ d l) ++ l.drop (at_ d l) := (List.take_append_drop _ _).symm
    refine ⟨?_, fun y => ?_, ?_⟩
    · rw [hl] at h
      have h3 := List.pairwise_append.1 h
      rw [List.append_assoc]
      refine List.pairwise_append.2 ⟨h3.1, ?_, fun a ha b hb => ?_⟩
      · refine List.pairwise_cons.2 ⟨fun y hy => ?_, h3.2.1⟩
        show lessB d y.f0 = true
        cases c2 : lessB d y.f0 with
        | true => rfl
        | false => exact absurd (lessB_total (h2 y hy) c2) (hn y (List.mem_of_mem_drop hy))
      · rcases List.mem_cons.1 hb with rfl | hb
        · exact h1 a ha
        · exact h3.2.2 a ha b hb
    · have : y ∈ l ↔ y ∈ l.take (at_ d l) ∨ y ∈ l.drop (at_ d l) := by rw [← List.mem_append, ← hl]
      simp only [List.mem_append, List.mem_singleton, this]
      constructor
      · rintro ((h | h) | h)
        · exact .inl (.inl h)
        · exact .inr ⟨h, hn⟩
        · exact .inl (.inr h)
      · rintro ((h | h) | h)
        · exact .inl (.inl h)
        · exact .inr h
        · exact .inl (.inr h.1)
    · have := at_le d l
      simp
      omega
structure InsA (l : List S) (a1 a2 : Int) (ds : List ByteArray) (m : List S) : Prop where
  up : m.Pairwise Less
  mem : ∀ y, y ∈ m ↔ y ∈ l ∨ (y.f0 ∈ ds ∧ y.f1 = a1 ∧ y.f2 = a2 ∧ ∀ x ∈ l, x.f0 ≠ y.f0)
  len : l.length ≤ m.length
theorem insAll_is (a1 a2 : Int) : ∀ (ds : List ByteArray) {l : List S}, l.Pairwise Less → InsA l a1 a2 ds (insAll a1 a2 l ds)
  | [], l, h => ⟨h, fun y => by simp [insAll], Nat.le_refl _⟩
  | d :: ds, l, h => by
    have h1 := insT_is h a1 a2 d
    have h2 := insAll_is a1 a2 ds h1.up
    refine ⟨h2.up, fun y => ?_, Nat.le_trans h1.len h2.len⟩
    show y ∈ insAll a1 a2 (insT a1 a2 l d) ds ↔ _
    rw [h2.mem, h1.mem]
    constructor
    · rintro ((h | ⟨rfl, h⟩) | ⟨h3, h4, h5, h6⟩)
      · exact .inl h
      · exact .inr ⟨by simp, rfl, rfl, h⟩
      · exact .inr ⟨by simp [h3], h4, h5, fun x hx => h6 x ((h1.mem x).2 (.inl hx))⟩
    · rintro (h | ⟨h3, h4, h5, h6⟩)
      · exact .inl (.inl h)
      · by_cases e : y.f0 = d
        · refine .inl (.inr ⟨?_, fun x hx => by rw [← e]; exact h6 x hx⟩)
          cases y; simp only at e h4 h5; subst e h4 h5; rfl
        · rcases List.mem_cons.1 h3 with h3 | h3
          · exact absurd h3 e
          · refine .inr ⟨h3, h4, h5, fun x hx => ?_⟩
            rcases (h1.mem x).1 hx with hx | ⟨rfl, _⟩
            · exact h6 x hx
            · exact fun e2 => e e2.symm
/-! ### the first loop -/
theorem hasB_iff (l : List ByteArray) (s : ByteArray) : hasB l s = true ↔ s ∈ l := by
  unfold hasB
  rw [List.any_eq_true]
  constructor
  · rintro ⟨d, hd, e⟩
    have : s = d := L_inj (by rw [← toL, ← toL]; simpa using e)
    rw [this]; exact hd
  · intro h; exact ⟨s, h, by simp⟩
theorem ask_iff (a1 : Int) (l3 : List ByteArray) (x : S) : askB a1 l3 x = true ↔ x.f1 ≠ a1 ∧ x.f0 ∈ l3 := by
  unfold askB
  rw [Bool.and_eq_true, hasB_iff]
  simp
theorem stP_is (a1 a2 : Int) (l3 : List ByteArray) : ∀ (l : List S) (s : Bool × List Int), Up ltI s.2 →
    ((l.foldl (stepP a1 a2 l3) s).1 = true ↔ s.1 = true ∧ ∀ x ∈ l, askB a1 l3 x = false) ∧ Up ltI (l.foldl (stepP a1 a2 l3) s).2 ∧
      ∀ t, t ∈ (l.foldl (stepP a1 a2 l3) s).2 ↔ t ∈ s.2 ∨ ∃ x ∈ l, askB a1 l3 x = true ∧ New.newB x.f2 x.f1 a2 a1 = true ∧ x.f1 = t
  | [], s, h => by simp [h]
  | x :: r, s, h => by
    rw [List.foldl_cons]
    have hu : Up ltI (stepP a1 a2 l3 s x).2 := by
      unfold stepP
      split
      · dsimp only
        split
        · exact up_insU ordI h
        · exact h
      · exact h
    obtain ⟨h1, h2, h3⟩ := stP_is a1 a2 l3 r (stepP a1 a2 l3 s x) hu
    refine ⟨?_, h2, fun t => ?_⟩
    · rw [h1]
      unfold stepP
      by_cases c : askB a1 l3 x = true
      · rw [if_pos c]; simp [c]
      · rw [if_neg c]; simp [c]
    · rw [h3]
      unfold stepP
      by_cases c : askB a1 l3 x = true
      · rw [if_pos c]
        dsimp only
        by_cases d : New.newB x.f2 x.f1 a2 a1 = true
        · rw [if_pos d, mem_insU]
          constructor
          · rintro ((h | h) | ⟨y, hy, h⟩)
            · exact .inr ⟨x, by simp, c, d, h.symm⟩
            · exact .inl h
            · exact .inr ⟨y, by simp [hy], h⟩
          · rintro (h | ⟨y, hy, h⟩)
            · exact .inl (.inr h)
            · rcases List.mem_cons.1 hy with rfl | hy
              · exact .inl (.inl h.2.2.symm)
              · exact .inr ⟨y, hy, h⟩
        · rw [if_neg d]
          constructor
          · rintro (h | ⟨y, hy, h⟩)
            · exact .inl h
            · exact .inr ⟨y, by simp [hy], h⟩
          · rintro (h | ⟨y, hy, h⟩)
            · exact .inl h
            · rcases List.mem_cons.1 hy with rfl | hy
              · exact absurd h.2.1 d
              · exact .inr ⟨y, hy, h⟩
      · rw [if_neg c]
        constructor
        · rintro (h | ⟨y, hy, h⟩)
          · exact .inl h
          · exact .inr ⟨y, by simp [hy], h⟩
        · rintro (h | ⟨y, hy, h⟩)
          · exact .inl h
          · rcases List.mem_cons.1 hy with rfl | hy
            · exact absurd h.1 c
            · exact .inr ⟨y, hy, h⟩
/-! ### what is taken -/
structure Ok (l : List S) (a1 a2 : Int) (ds : List ByteArray) : Prop where
  right : RightH l
  n1 : 0 ≤ a1 ∧ a1 ≤ 281474976710656
  n2 : 0 ≤ a2 ∧ a2 ≤ 281474976710656
  dirs : ∀ d ∈ ds, isP d = true
  own : ∀ x ∈ l, x.f1 = a1 → x.f2 = a2
theorem bad_iff (a1 a2 : Int) (l : List S) (ds : List ByteArray) : badB a1 a2 l ds = false ↔ Ok l a1 a2 ds := by
  unfold badB
  simp only [Bool.or_eq_false_iff, Bool.not_eq_false']
  rw [right_iff, num_iff, num_iff]
  constructor
  · rintro ⟨h1, h2, h3, h4, h5⟩
    refine ⟨h1, h2, h3, fun d hd => ?_, fun x hx e => ?_⟩
    · have := List.any_eq_false.1 h4 d hd
      unfold oddP at this
      simpa using this
    · have := List.any_eq_false.1 h5 x hx
      unfold strP at this
      simpa [e] using this
  · rintro ⟨h1, h2, h3, h4, h5⟩
    refine ⟨h1, h2, h3, List.any_eq_false.2 fun d hd => ?_, List.any_eq_false.2 fun x hx => ?_⟩
    · unfold oddP; rw [h4 d hd]; simp
    · unfold strP
      by_cases e : x.f1 = a1
      · rw [h5 x hx e]; simp
      · simp [e]
theorem newer_iff {a b c d : Int} (h1 : 0 ≤ a ∧ a ≤ 281474976710656) (h2 : 0 ≤ b ∧ b ≤ 281474976710656) (h3 : 0 ≤ c ∧ c ≤ 281474976710656) (h4 : 0 ≤ d ∧ d ≤ 281474976710656) : New.newB a b c d = true ↔ c < a ∨ (a = c ∧ d < b) := by
  unfold New.newB New.pairB
  simp only [Bool.and_eq_true, Bool.or_eq_true, decide_eq_true_eq]
  omega
inductive Took (l : List S) (a1 a2 : Int) (ds : List ByteArray) (r : List S × List Int × Bool) : Prop
  | bad (h : ¬ Ok l a1 a2 ds) (e : r = ([], [], false))
  | got (h : Ok l a1 a2 ds) (hf : ∀ x ∈ l, x.f0 ∈ ds → x.f1 = a1) (m : List S) (e : r = (m, [], true)) (hm : InsA l a1 a2 ds m) (hr : RightH m)
  | wait (h : Ok l a1 a2 ds) (x : S) (hx : x ∈ l) (hd : x.f0 ∈ ds) (hn : x.f1 ≠ a1) (W : List Int) (e : r = (l, W, false)) (hu : Up ltI W)
      (hW : ∀ t, t ∈ W ↔ ∃ y ∈ l, y.f0 ∈ ds ∧ y.f1 ≠ a1 ∧ (a2 < y.f2 ∨ (y.f2 = a2 ∧ a1 < y.f1)) ∧ y.f1 = t)
theorem took (l : List S) (a1 a2 : Int) (ds : List ByteArray) : Took l a1 a2 ds (takeP l a1 a2 ds) := by
  cases hb : badB a1 a2 l ds with
  | true => exact .bad (fun h => by rw [(bad_iff a1 a2 l ds).2 h] at hb; cases hb) (by unfold takeP; rw [if_pos hb])
  | false =>
    have hok := (bad_iff a1 a2 l ds).1 hb
    obtain ⟨h1, h2, h3⟩ := stP_is a1 a2 ds l (true, []) List.Pairwise.nil
    by_cases c : (stP a1 a2 ds l).1 = true
    · have hf := (h1.1 c).2
      have hi := insAll_is a1 a2 ds hok.right.up
      have hff : ∀ x ∈ l, x.f0 ∈ ds → x.f1 = a1 := fun x hx hd => by
        have := hf x hx
        rcases Decidable.em (x.f1 = a1) with e | e
        · exact e
        · rw [(ask_iff a1 ds x).2 ⟨e, hd⟩] at this; cases this
      refine .got hok hff _ (by unfold takeP; rw [if_neg (by rw [hb]; simp), if_pos c]) hi ⟨fun y hy => ?_, hi.up, fun y hy z hz e => ?_⟩
      · rcases (hi.mem y).1 hy with hy | ⟨g1, g2, g3, _⟩
        · exact hok.right.ok y hy
        · exact (okE_iff y).2 ⟨hok.dirs _ g1, by rw [g2]; exact hok.n1, by rw [g3]; exact hok.n2⟩
      · rcases (hi.mem y).1 hy with hy | ⟨g1, g2, g3, _⟩
        · rcases (hi.mem z).1 hz with hz | ⟨k1, k2, k3, _⟩
          · exact hok.right.age y hy z hz e
          · rw [k3]; exact hok.own y hy (by rw [e, k2])
        · rcases (hi.mem z).1 hz with hz | ⟨k1, k2, k3, _⟩
          · rw [g3]; exact (hok.own z hz (by rw [← e, g2])).symm
          · rw [g3, k3]
    · have hx : ∃ x ∈ l, askB a1 ds x = true := by
        refine Classical.byContradiction fun hn => c (h1.2 ⟨rfl, fun x hx => ?_⟩)
        cases q : askB a1 ds x with
        | false => rfl
        | true => exact absurd ⟨x, hx, q⟩ hn
      obtain ⟨x, hx, hq⟩ := hx
      obtain ⟨q1, q2⟩ := (ask_iff a1 ds x).1 hq
      refine .wait hok x hx q2 q1 _ (by unfold takeP; rw [if_neg (by rw [hb]; simp), if_neg c]; rfl) h2 (fun t => ?_)
      have h3 := h3 t
      refine h3.trans ?_
      simp only [List.not_mem_nil, false_or]
      refine exists_congr fun y => and_congr_right fun hy => ?_
      have hy2 := (okE_iff y).1 (hok.right.ok y hy)
      rw [ask_iff, newer_iff hy2.2.2 hy2.2.1 hok.n2 hok.n1]
      constructor
      · rintro ⟨⟨g1, g2⟩, g3, g4⟩; exact ⟨g2, g1, g3, g4⟩
      · rintro ⟨g2, g1, g3, g4⟩; exact ⟨⟨g1, g2⟩, g3, g4⟩
/-! ### who holds -/
theorem held_iff (l : List S) (d : ByteArray) : heldB l d = true ↔ ∃ x ∈ l, x.f0 = d := by
  unfold heldB
  rw [List.any_eq_true]
  refine exists_congr fun x => and_congr_right fun _ => ?_
  rw [toL, toL, beq_iff_eq]
  exact ⟨fun h => L_inj h, fun h => by rw [h]⟩
theorem heldT_is {l : List S} (h : l.Pairwise Less) {x : S} (hx : x ∈ l) : heldT l x.f0 = x.f1 := by
  unfold heldT
  have hs : (l.find? (fun y => y.f0.toList == x.f0.toList)).isSome := by rw [List.find?_isSome]; exact ⟨x, hx, by simp⟩
  obtain ⟨y, hy⟩ := Option.isSome_iff_exists.1 hs
  rw [hy]
  have h1 := List.mem_of_find?_eq_some hy
  have h2 := List.find?_some hy
  rw [toL, toL, beq_iff_eq] at h2
  rw [uniq h h1 hx (L_inj h2)]
/-! ### what is let go -/
abbrev freeP (l : List S) (t : Int) : List S := LFree.freeL l t
theorem mem_free {l : List S} {t : Int} {y : S} : y ∈ freeP l t ↔ y ∈ l ∧ y.f1 ≠ t := by
  show y ∈ l.filter (fun x => !(x.f1 == t)) ↔ _
  rw [List.mem_filter]; simp
theorem right_free {l : List S} (h : RightH l) (t : Int) : RightH (freeP l t) :=
  ⟨fun x hx => h.ok x (mem_free.1 hx).1, h.up.sublist List.filter_sublist, fun x hx y hy => h.age x (mem_free.1 hx).1 y (mem_free.1 hy).1⟩
end Go.Proofs.Ytclomgbiomojjaa.LTh
