/- locks.Take's first loop in closed words: who is wounded, as numbers that rise. -/
import Derived.Test.YtclomgbiomojjaaLess
import Derived.Lib.SlicesCompact
import Derived.Lib.SlKeysI
import Derived.Maps.OwnSet
import Derived.Maps.Views
/- Plain: sets as lists that rise; what sorting and making single comes to. -/
namespace Go.Proofs.Ytclomgbiomojjaa.LSet
open Go Go.Proofs.Ytclomgbiomojjaa.PathF Go.Proofs.Ytclomgbiomojjaa.Split
set_option linter.unusedSectionVars false
set_option linter.unusedVariables false
set_option linter.unusedSimpArgs false

section
variable {α : Type} [DecidableEq α] (lt : α → α → Bool)
structure Ord : Prop where
  irr : ∀ a, lt a a = false
  tr : ∀ {a b c}, lt a b = true → lt b c = true → lt a c = true
  tot : ∀ {a b}, lt a b = false → lt b a = false → a = b
def insU (x : α) : List α → List α
  | [] => [x]
  | y :: t => if lt x y = true then x :: y :: t else if x = y then y :: t else y :: insU x t
def setU (l : List α) : List α := l.foldl (fun acc x => insU lt x acc) []
variable {lt}
theorem mem_insU {x z : α} : ∀ l : List α, z ∈ insU lt x l ↔ z = x ∨ z ∈ l
  | [] => by simp [insU]
  | y :: t => by
    unfold insU
    split
    · simp
    · split
      · next _ h => subst h; simp
      · rw [List.mem_cons, mem_insU t, List.mem_cons]
        constructor
        · rintro (h | h | h)
          · exact .inr (.inl h)
          · exact .inl h
          · exact .inr (.inr h)
        · rintro (h | h | h)
          · exact .inr (.inl h)
          · exact .inl h
          · exact .inr (.inr h)
def Up (lt : α → α → Bool) (l : List α) : Prop := l.Pairwise (fun a b => lt a b = true)
theorem up_insU (o : Ord lt) {x : α} : ∀ {l : List α}, Up lt l → Up lt (insU lt x l)
  | [], _ => by simp [insU, Up]
  | y :: t, h => by
    unfold insU
    have h1 := List.pairwise_cons.1 h
    split
    · next c =>
      refine List.pairwise_cons.2 ⟨fun z hz => ?_, h⟩
      rcases List.mem_cons.1 hz with rfl | hz
      · exact c
      · exact o.tr c (h1.1 z hz)
    · next c =>
      split
      · exact h
      · next e =>
        refine List.pairwise_cons.2 ⟨fun z hz => ?_, up_insU o h1.2⟩
        rcases (mem_insU t).1 hz with rfl | hz
        · cases c2 : lt y z with
          | true => rfl
          | false => exact absurd (o.tot (by simpa using c) c2) e
        · exact h1.1 z hz
theorem mem_foldU {z : α} : ∀ (l acc : List α), z ∈ l.foldl (fun acc x => insU lt x acc) acc ↔ z ∈ acc ∨ z ∈ l
  | [], acc => by simp
  | x :: t, acc => by
    rw [List.foldl_cons, mem_foldU t, mem_insU, List.mem_cons]
    constructor
    · rintro ((h | h) | h)
      · exact .inr (.inl h)
      · exact .inl h
      · exact .inr (.inr h)
    · rintro (h | h | h)
      · exact .inl (.inr h)
      · exact .inl (.inl h)
      · exact .inr h
theorem mem_setU {l : List α} {z : α} : z ∈ setU lt l ↔ z ∈ l := by
  unfold setU; rw [mem_foldU]; simp
theorem up_foldU (o : Ord lt) : ∀ (l acc : List α), Up lt acc → Up lt (l.foldl (fun acc x => insU lt x acc) acc)
  | [], acc, h => h
  | x :: t, acc, h => by rw [List.foldl_cons]; exact up_foldU o t _ (up_insU o h)
theorem up_setU (o : Ord lt) (l : List α) : Up lt (setU lt l) := up_foldU o l [] List.Pairwise.nil
theorem up_head (o : Ord lt) {x y : α} {s t : List α} (h1 : Up lt (x :: s)) (h2 : Up lt (y :: t)) (h : ∀ z, z ∈ x :: s ↔ z ∈ y :: t) : x = y := by
  have a1 := List.pairwise_cons.1 h1
  have a2 := List.pairwise_cons.1 h2
  rcases List.mem_cons.1 ((h x).1 (List.mem_cons_self)) with e | e
  · exact e
  · rcases List.mem_cons.1 ((h y).2 (List.mem_cons_self)) with e' | e'
    · exact e'.symm
    · have := o.tr (a1.1 y e') (a2.1 x e)
      rw [o.irr] at this
      cases this
theorem up_eq (o : Ord lt) : ∀ {a b : List α}, Up lt a → Up lt b → (∀ z, z ∈ a ↔ z ∈ b) → a = b
  | [], [], _, _, _ => rfl
  | [], y :: t, _, _, h => absurd ((h y).2 List.mem_cons_self) (by simp)
  | x :: s, [], _, _, h => absurd ((h x).1 List.mem_cons_self) (by simp)
  | x :: s, y :: t, h1, h2, h => by
    obtain rfl := up_head o h1 h2 h
    have a1 := List.pairwise_cons.1 h1
    have a2 := List.pairwise_cons.1 h2
    rw [up_eq o a1.2 a2.2 (fun z => ?_)]
    constructor
    · intro hz
      rcases List.mem_cons.1 ((h z).1 (List.mem_cons_of_mem _ hz)) with e | e
      · subst e
        have := a1.1 z hz
        rw [o.irr] at this; cases this
      · exact e
    · intro hz
      rcases List.mem_cons.1 ((h z).2 (List.mem_cons_of_mem _ hz)) with e | e
      · subst e
        have := a2.1 z hz
        rw [o.irr] at this; cases this
      · exact e
theorem compact_up [Inhabited α] (o : Ord lt) (l : List α) (hs : l.Pairwise (fun a b => lt b a = false)) : ∀ m, m ≤ l.length →
    (∀ z, z ∈ Lib.compactUpTo l.toArray m ↔ z ∈ l.take m) ∧ Up lt (Lib.compactUpTo l.toArray m)
  | 0, _ => by simp [Lib.compactUpTo, Up]
  | m + 1, hm => by
    obtain ⟨ih1, ih2⟩ := compact_up o l hs m (by omega)
    have hg : l.toArray[m]! = l[m] := by rw [getElem!_pos l.toArray m (by simp; omega)]; simp
    rw [Lib.compactUpTo_succ, List.take_succ_eq_append_getElem (by omega), hg]
    by_cases hk : Lib.keeps l.toArray m = true
    · rw [if_pos hk]
      refine ⟨fun z => by rw [List.mem_append, List.mem_append, ih1], ?_⟩
      refine List.pairwise_append.2 ⟨ih2, List.pairwise_singleton _ _, fun a ha b hb => ?_⟩
      obtain rfl := List.mem_singleton.1 hb
      obtain ⟨j, hj, rfl⟩ := List.getElem_of_mem ((ih1 a).1 ha)
      rw [List.length_take] at hj
      rw [List.getElem_take]
      have hP := List.pairwise_iff_getElem.1 hs
      unfold Lib.keeps at hk
      have hk2 := of_decide_eq_true hk
      rcases hk2 with hk2 | hk2
      · omega
      · have hg1 : l.toArray[m - 1]! = l[m - 1] := by rw [getElem!_pos l.toArray (m - 1) (by simp; omega)]; simp
        rw [hg, hg1] at hk2
        have h0 : lt l[m - 1] l[m] = true := by
          cases c : lt l[m - 1] l[m] with
          | true => rfl
          | false => exact absurd (o.tot (hP (m - 1) m (by omega) (by omega) (by omega)) c) hk2
        by_cases e : j = m - 1
        · subst e; exact h0
        · cases c : lt l[j] l[m - 1] with
          | true => exact o.tr c h0
          | false =>
            have := o.tot c (hP j (m - 1) (by omega) (by omega) (by omega))
            rw [this]; exact h0
    · rw [if_neg hk, List.append_nil]
      refine ⟨fun z => ?_, ih2⟩
      rw [ih1, List.mem_append, List.mem_singleton]
      refine ⟨.inl, fun h => h.elim id fun h => ?_⟩
      unfold Lib.keeps at hk
      simp only [decide_eq_true_eq, not_or, Decidable.not_not] at hk
      obtain ⟨h0, h1⟩ := hk
      have hg1 : l.toArray[m - 1]! = l[m - 1] := by rw [getElem!_pos l.toArray (m - 1) (by simp; omega)]; simp
      rw [hg, hg1] at h1
      rw [h, h1]
      exact List.mem_take_iff_getElem.2 ⟨m - 1, by omega, rfl⟩
theorem compact_is [Inhabited α] (o : Ord lt) (l : List α) (hs : l.Pairwise (fun a b => lt b a = false)) : Lib.compact l = setU lt l := by
  obtain ⟨h1, h2⟩ := compact_up o l hs l.length (Nat.le_refl _)
  rw [List.take_length] at h1
  exact up_eq o h2 (up_setU o l) (fun z => by unfold Lib.compact at *; rw [h1, mem_setU])
end
/-! ### whole numbers -/
abbrev ltI (a b : Int) : Bool := decide (a < b)
theorem ordI : Ord ltI := ⟨fun a => by simp, fun h1 h2 => by simp at *; omega, fun h1 h2 => by simp at *; omega⟩
/-! ### texts -/
abbrev ltL (a b : List UInt8) : Bool := Op.bytesLess a b
theorem ordL : Ord ltL := ⟨less_irrefl, less_trans, less_total⟩
def ltB (a b : ByteArray) : Bool := Op.bytesLess (L a) (L b)
theorem ordB : Ord ltB := ⟨fun a => less_irrefl _, less_trans, fun h1 h2 => L_inj (less_total h1 h2)⟩
theorem insU_L (x : ByteArray) : ∀ l : List ByteArray, (insU ltB x l).map L = insU ltL (L x) (l.map L)
  | [] => rfl
  | y :: t => by
    unfold insU
    rw [List.map_cons]
    show _ = if ltL (L x) (L y) = true then _ else _
    by_cases c : ltB x y = true
    · rw [if_pos c, if_pos (show ltL (L x) (L y) = true from c)]; rfl
    · rw [if_neg c, if_neg (show ¬ ltL (L x) (L y) = true from c)]
      by_cases e : x = y
      · rw [if_pos e, if_pos (by rw [e])]; rfl
      · rw [if_neg e, if_neg (fun h => e (L_inj h)), List.map_cons, insU_L x t]
theorem foldU_L : ∀ (l acc : List ByteArray), (l.foldl (fun acc x => insU ltB x acc) acc).map L = (l.map L).foldl (fun acc x => insU ltL x acc) (acc.map L)
  | [], acc => rfl
  | x :: t, acc => by rw [List.foldl_cons, foldU_L t, insU_L]; rfl
theorem setU_L (l : List ByteArray) : (setU ltB l).map L = setU ltL (l.map L) := foldU_L l []
theorem less_is : ∀ x y : List UInt8, Op.bytesLess x y = decide (x < y)
  | [], [] => by simp [Op.bytesLess]
  | _ :: _, [] => by simp [Op.bytesLess]
  | [], _ :: _ => by simp [Op.bytesLess]
  | a :: x, b :: y => by
    rw [Op.bytesLess, less_is x y, Bool.eq_iff_iff]
    simp [List.cons_lt_cons_iff]
/-- sorted, then made single -/
theorem comp_sort (l : List (List UInt8)) : Lib.compact (l.mergeSort fun x y => decide (x ≤ y)) = setU ltL l := by
  have e : ∀ x y : List UInt8, decide (x ≤ y) = !(ltL y x) := fun x y => by
    show decide (x ≤ y) = !(Op.bytesLess y x)
    rw [less_is]
    by_cases h : y < x
    · rw [decide_eq_true h]; exact decide_eq_false (fun h2 : ¬ y < x => h2 h)
    · rw [decide_eq_false h]; exact decide_eq_true (show ¬ y < x from h)
  have e2 : (fun x y : List UInt8 => decide (x ≤ y)) = fun x y => !(ltL y x) := funext fun x => funext fun y => e x y
  have hs : (l.mergeSort fun x y => decide (x ≤ y)).Pairwise (fun a b => ltL b a = false) := by
    rw [e2]
    have := List.pairwise_mergeSort (le := fun x y => !(ltL y x)) (fun a b c h1 h2 => by
      have h1 : ltL b a = false := by simpa using h1
      have h2 : ltL c b = false := by simpa using h2
      cases h3 : ltL c a with
      | false => rfl
      | true =>
        exfalso
        cases h4 : ltL a b with
        | true => have := ordL.tr h3 h4; rw [h2] at this; cases this
        | false => have := ordL.tot h4 h1; subst this; rw [h2] at h3; cases h3) (fun a b => by
      cases h1 : ltL b a <;> cases h2 : ltL a b <;> simp
      have := ordL.tr h1 h2
      rw [ordL.irr] at this; cases this) l
    exact this.imp (fun h => by simpa using h)
  rw [compact_is ordL _ hs]
  exact up_eq ordL (up_setU ordL _) (up_setU ordL _) (fun z => by rw [mem_setU, mem_setU]; exact (List.mergeSort_perm _ _).mem_iff)
end Go.Proofs.Ytclomgbiomojjaa.LSet
namespace Go.Proofs.Ytclomgbiomojjaa.LTk1
open Go Go.RowKit Go.Maps Go.Proofs.Ytclomgbiomojjaa.Q Go.Proofs.Ytclomgbiomojjaa.LRight Go.Proofs.Ytclomgbiomojjaa.LTk0 Go.Proofs.Ytclomgbiomojjaa.LSet
set_option linter.unusedVariables false
set_option linter.unusedSimpArgs false

def stepP (a1 a2 : Int) (l3 : List ByteArray) (s : Bool × List Int) (x : S34) : Bool × List Int :=
  if askB a1 l3 x = true then (false, if New.newB x.f2 x.f1 a2 a1 = true then insU ltI x.f1 s.2 else s.2) else s
def stP (a1 a2 : Int) (l3 : List ByteArray) (l : List S34) : Bool × List Int := l.foldl (stepP a1 a2 l3) (true, [])
def RepW (D : Dm) (W : List Int) : Prop := Tidy D ∧ Up ltI W ∧ (∀ t : Int, Maps.has D (.int .i64 t) = true ↔ t ∈ W) ∧ ∃ es, D = .map es ∧ ∀ p ∈ es, ∃ x, p.1 = .int .i64 x
theorem repW_nil : RepW (.map []) [] := ⟨tidy_empty, List.Pairwise.nil, fun t => by simp [has_eq], [], rfl, by simp⟩
theorem repW_bump {D : Dm} {W : List Int} (h : RepW D W) (t : Int) : RepW (bump D t) (insU ltI t W) := by
  obtain ⟨h1, h2, h3, es, rfl, h5⟩ := h
  refine ⟨h1.put (k := .int .i64 t) (show WideAt.IsKeyLit (.int .i64 t) from trivial) _, up_insU ordI h2, fun s => ?_, _, rfl, fun p hp => ?_⟩
  · rw [mem_insU]
    by_cases e : s = t
    · subst e
      unfold bump
      rw [has_put_same ⟨es, rfl⟩ (show WideAt.IsKeyLit (.int .i64 s) from trivial)]
      simp
    · unfold bump
      rw [has_put_other (fun e' => e (by cases e'; rfl)), h3]
      simp [e]
  · rcases Go.ChangeMaps.mem_insert_iff.1 hp with rfl | hp
    · exact ⟨t, rfl⟩
    · exact h5 p (List.mem_filter.1 hp).1
theorem rep_step (a1 a2 : Int) (l3 : List ByteArray) {s : Bool × Dm} {p : Bool × List Int} (h1 : s.1 = p.1) (h2 : RepW s.2 p.2) (x : S34) : (stepW a1 a2 l3 s x).1 = (stepP a1 a2 l3 p x).1 ∧ RepW (stepW a1 a2 l3 s x).2 (stepP a1 a2 l3 p x).2 := by
  unfold stepW stepP
  by_cases c : askB a1 l3 x = true
  · rw [if_pos c, if_pos c]
    refine ⟨rfl, ?_⟩
    dsimp only
    by_cases d : New.newB x.f2 x.f1 a2 a1 = true
    · rw [if_pos d, if_pos d]; exact repW_bump h2 _
    · rw [if_neg d, if_neg d]; exact h2
  · rw [if_neg c, if_neg c]; exact ⟨h1, h2⟩
theorem rep_fold (a1 a2 : Int) (l3 : List ByteArray) : ∀ (l : List S34) (s : Bool × Dm) (p : Bool × List Int), s.1 = p.1 → RepW s.2 p.2 → (l.foldl (stepW a1 a2 l3) s).1 = (l.foldl (stepP a1 a2 l3) p).1 ∧ RepW (l.foldl (stepW a1 a2 l3) s).2 (l.foldl (stepP a1 a2 l3) p).2
  | [], _, _, h1, h2 => ⟨h1, h2⟩
  | x :: t, s, p, h1, h2 => by
    obtain ⟨g1, g2⟩ := rep_step a1 a2 l3 h1 h2 x
    exact rep_fold a1 a2 l3 t _ _ g1 g2
theorem keys_is {D : Dm} {W : List Int} (h : RepW D W) : ((intKeys D).mergeSort fun x y => decide (x ≤ y)) = W := by
  obtain ⟨⟨es, rfl, h1⟩, h2, h3, es', he, h5⟩ := h
  cases he
  have hnd : W.Nodup := h2.imp (fun h e => by have := of_decide_eq_true h; omega)
  have hp := perm_intKeys h1 h5 hnd (fun x => (h3 x).symm)
  rw [← sort_perm hp]
  exact List.mergeSort_of_pairwise (h2.imp (fun h => by have := of_decide_eq_true h; exact decide_eq_true (by omega)))
theorem stW_is (a1 a2 : Int) (l3 : List ByteArray) (l : List S34) : (stW a1 a2 l3 l).1 = (stP a1 a2 l3 l).1 ∧ ((intKeys (stW a1 a2 l3 l).2).mergeSort fun x y => decide (x ≤ y)) = (stP a1 a2 l3 l).2 := by
  obtain ⟨h1, h2⟩ := rep_fold a1 a2 l3 l (true, .map []) (true, []) rfl repW_nil
  exact ⟨h1, keys_is h2⟩
end Go.Proofs.Ytclomgbiomojjaa.LTk1
