/- Stores: what part.Right answers, as a property of nodes and turns. -/
import Derived.Test.YtinjajpnbbknnaaPart
import Derived.Test.YtinjajpnbbknnaaPathB
namespace Go.Proofs.Ytinjajpnbbknnaa.Str
open Go Go.RowKit Go.Proofs.Ytinjajpnbbknnaa.PathF Go.Proofs.Ytinjajpnbbknnaa.Part Go.Proofs.Ytinjajpnbbknnaa.Q Go.Proofs.YtinjajpnbbknnaaW.PrintWords Go.Proofs.YtinjajpnbbknnaaW.PrintLast Go.Proofs.YtinjajpnbbknnaaW.PrintMore

abbrev N := S40
abbrev T := S59
def LessN (x y : N) : Prop := lessB x.f0 y.f0 = true
def LessT (x y : T) : Prop := lessB x.f0 y.f0 = true
theorem rdN (l : List N) (i : Nat) (h : i < l.length) : rd_T40 l (i : Int) = l[i] := INode.rd_is l i h
theorem rdT (l : List T) (i : Nat) (h : i < l.length) : rd_T59 l (i : Int) = l[i] := ITurn.rd_is l i h
theorem chain {α : Type} (R : α → α → Prop) (ht : ∀ {a b c}, R a b → R b c → R a c) (l : List α) (h : ∀ i, (hi : i + 1 < l.length) → R (l[i]'(by omega)) l[i + 1]) : l.Pairwise R := by
  rw [List.pairwise_iff_getElem]
  have key : ∀ (n i : Nat) (h1 : i < l.length) (h2 : i + n + 1 < l.length), R l[i] l[i + n + 1] := by
    intro n
    induction n with
    | zero => intro i h1 h2; exact h i h2
    | succ n ih => intro i h1 h2; exact ht (ih i h1 (by omega)) (h (i + n + 1) h2)
  intro i j hi hj hij
  obtain ⟨n, rfl⟩ : ∃ n, j = i + n + 1 := ⟨j - i - 1, by omega⟩
  exact key n i hi hj
theorem risN (l : List N) : RNode.risB l = true ↔ l.Pairwise LessN := by
  constructor
  · intro h
    unfold RNode.risB at h
    rw [List.all_eq_true] at h
    refine chain LessN lessB_trans l (fun i hi => ?_)
    have := h (i + 1) (List.mem_range.2 hi)
    unfold RNode.upB at this
    rw [decide_eq_false (by omega), Bool.false_or, show (((i + 1 : Nat) : Int) - 1) = (i : Int) by omega, rdN l i (by omega), rdN l (i + 1) hi] at this
    exact this
  · intro h
    refine RNode.ris_yes (fun i hi => ?_)
    unfold RNode.upB
    by_cases c : i = 0
    · rw [decide_eq_true c]; rfl
    · rw [decide_eq_false c, Bool.false_or, show ((i : Int) - 1) = ((i - 1 : Nat) : Int) by omega, rdN l (i - 1) (by omega), rdN l i hi]
      exact List.pairwise_iff_getElem.1 h (i - 1) i (by omega) hi (by omega)
theorem risT (l : List T) : RTurn.risB l = true ↔ l.Pairwise LessT := by
  constructor
  · intro h
    unfold RTurn.risB at h
    rw [List.all_eq_true] at h
    refine chain LessT lessB_trans l (fun i hi => ?_)
    have := h (i + 1) (List.mem_range.2 hi)
    unfold RTurn.upB at this
    rw [decide_eq_false (by omega), Bool.false_or, show (((i + 1 : Nat) : Int) - 1) = (i : Int) by omega, rdT l i (by omega), rdT l (i + 1) hi] at this
    exact this
  · intro h
    refine RTurn.ris_yes (fun i hi => ?_)
    unfold RTurn.upB
    by_cases c : i = 0
    · rw [decide_eq_true c]; rfl
    · rw [decide_eq_false c, Bool.false_or, show ((i : Int) - 1) = ((i - 1 : Nat) : Int) by omega, rdT l (i - 1) (by omega), rdT l i hi]
      exact List.pairwise_iff_getElem.1 h (i - 1) i (by omega) hi (by omega)
structure StoreM (n : List N) (t : List T) : Prop where
  okN : ∀ x ∈ n, strangeB x = false
  upN : n.Pairwise LessN
  okT : ∀ x ∈ t, oddB x = false
  upT : t.Pairwise LessT
theorem store_iff (n : List N) (t : List T) : storeB n t = true ↔ StoreM n t := by
  unfold storeB
  simp only [Bool.and_eq_true, Bool.not_eq_true', List.any_eq_false, risN, risT]
  constructor
  · rintro ⟨h1, h2, h3, h4⟩
    exact ⟨fun x hx => by simpa using h1 x hx, h3, fun x hx => by simpa using h2 x hx, h4⟩
  · rintro ⟨h1, h2, h3, h4⟩
    exact ⟨fun x hx => by rw [h1 x hx]; simp, fun x hx => by rw [h3 x hx]; simp, h2, h4⟩
theorem StoreM.filter {n : List N} {t : List T} (h : StoreM n t) (p : N → Bool) (q : T → Bool) : StoreM (n.filter p) (t.filter q) :=
  ⟨fun x hx => h.okN x (List.mem_filter.1 hx).1, h.upN.sublist List.filter_sublist, fun x hx => h.okT x (List.mem_filter.1 hx).1, h.upT.sublist List.filter_sublist⟩
end Go.Proofs.Ytinjajpnbbknnaa.Str
