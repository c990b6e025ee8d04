/- ViewsOld: the plain law. -/
import Derived.Test.YtndnjmgmdkkifaaVw18
import Derived.Test.YtndnjmgmdkkifaaVw19
namespace Go.Proofs.Ytndnjmgmdkkifaa.Vw1
open Go Go.RowKit Go.Maps Go.Proofs Go.Proofs.Ytndnjmgmdkkifaa.New Go.Proofs.Ytndnjmgmdkkifaa.Vw Go.Proofs.Ytndnjmgmdkkifaa.Vw0 Go.Proofs.YtndnjmgmdkkifaaW.PrintWords Go.Proofs.YtndnjmgmdkkifaaW.PrintLast Go.Proofs.YtndnjmgmdkkifaaW.PrintMore
set_option linter.unusedVariables false
set_option linter.unusedSimpArgs false

theorem take_false {s : V} {fr : Int} {l : Ltr} (h : (s.take fr l).2 = false) : (s.take fr l).1 = s := by
  unfold V.take at h ⊢
  split
  · next c => rw [if_pos c] at h; cases h
  · rfl
theorem reckonN_view : ∀ (k : Nat) (s : V), (reckonN k s).view = s.view
  | 0, s => rfl
  | k + 1, s => by
    unfold reckonN
    split
    · split
      · exact (reckonN_view k _).trans rfl
      · rfl
    · rfl
theorem reckon_view (s : V) : s.reckon.view = s.view := reckonN_view _ s
theorem count_view (s : V) : s.count.view = s.view := by
  unfold V.count
  split
  · exact reckon_view _
  · rfl
theorem got_view (t : V) (fr : Int) (l : Ltr) : (t.got fr l).view = t.view := by
  unfold V.got
  split
  · dsimp only
    split <;> rfl
  · split
    · exact reckon_view _
    · split
      · exact count_view _
      · rfl
theorem take_true {s : V} {fr : Int} {l : Ltr} (h : (s.take fr l).2 = true) : (s.take fr l).1.view = l.view := by
  unfold V.take at h ⊢
  split
  · next c =>
    simp only [Bool.and_eq_true] at c
    have := right_facts c.2
    show ((if s.view < l.view then s.fresh l.view else s).got fr l).view = l.view
    rw [got_view]
    split
    · rfl
    · omega
  · next c => rw [if_neg c] at h; cases h
theorem take_not {s : V} {fr : Int} {l : Ltr} (h : l.view < s.view ∨ fr < 0 ∨ s.many ≤ fr ∨ fr = s.me) : s.take fr l = (s, false) := by
  rcases h with h | h | h | h
  · refine take_no2 ?_
    cases e : s.rightB l with
    | false => rfl
    | true => have := right_facts e; omega
  · refine take_no1 ?_
    cases e : s.otherB fr with
    | false => rfl
    | true => have := other_facts e; omega
  · refine take_no1 ?_
    cases e : s.otherB fr with
    | false => rfl
    | true => have := other_facts e; omega
  · refine take_no1 ?_
    unfold V.otherB
    simp [h]
theorem sameS_self (v n : Int) (l : Log) : sameS v n l v n l = true := by
  unfold sameS
  simp [(eqL_iff l l).2 rfl]
end Go.Proofs.Ytndnjmgmdkkifaa.Vw1
