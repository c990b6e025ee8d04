/- ViewsSaved: the plain law. -/
import Derived.Test.YtndnjmgmdkkifaaVw20
import Derived.Test.YtndnjmgmdkkifaaQx0
namespace Go.Proofs.Ytndnjmgmdkkifaa.Vw1
open Go Go.RowKit Go.Maps Go.Proofs Go.Proofs.Ytndnjmgmdkkifaa.New Go.Proofs.Ytndnjmgmdkkifaa.Vw Go.Proofs.Ytndnjmgmdkkifaa.Vw0 Go.Proofs.Ytndnjmgmdkkifaa.Q Go.Proofs.YtndnjmgmdkkifaaW.PrintWords Go.Proofs.YtndnjmgmdkkifaaW.PrintLast Go.Proofs.YtndnjmgmdkkifaaW.PrintMore
set_option linter.unusedVariables false
set_option linter.unusedSimpArgs false

def ltrOf (x : S33) : Ltr := ⟨x.f0, x.f1, x.f2, x.f5, x.f3, x.f4, x.f6, x.f7⟩
def opV (s : V) (o : S35) : V := if o.f0 < 2 then (s.propose o.f1).1 else if o.f0 = 2 then s.turn.1 else (s.take o.f2 (ltrOf o.f3)).1
/-- what a call may make of a part -/
structure Mono (s t : V) : Prop where
  view : s.view ≤ t.view
  normal : s.normal ≤ t.normal
  me : t.me = s.me
  many : t.many = s.many
  stays : s.stays ≤ t.stays
  more : s.stays < t.stays → t.stays ≤ t.log.length
theorem Mono.refl (s : V) : Mono s s := ⟨Int.le_refl _, Int.le_refl _, rfl, rfl, Int.le_refl _, fun h => by omega⟩
theorem mono_reckonN : ∀ (k : Nat) (s : V), Mono s (reckonN k s)
  | 0, s => Mono.refl s
  | k + 1, s => by
    unfold reckonN
    split
    · next h =>
      split
      · have ih := mono_reckonN k { s with stays := s.stays + 1 }
        have hl : (reckonN k { s with stays := s.stays + 1 }).log = s.log := by
          have : ∀ (k : Nat) (s : V), (reckonN k s).log = s.log := fun k => by
            induction k with
            | zero => intro s; rfl
            | succ k ih =>
              intro s
              unfold reckonN
              split
              · split
                · exact (ih _).trans rfl
                · rfl
              · rfl
          exact this k _
        refine ⟨ih.view, ih.normal, ih.me, ih.many, by have := ih.stays; show s.stays ≤ _; have : s.stays + 1 ≤ (reckonN k { s with stays := s.stays + 1 }).stays := this; omega, fun _ => ?_⟩
        simp only [Bool.and_eq_true, decide_eq_true_eq] at h
        by_cases c : s.stays + 1 < (reckonN k { s with stays := s.stays + 1 }).stays
        · exact ih.more c
        · have e : s.stays + 1 ≤ (reckonN k { s with stays := s.stays + 1 }).stays := ih.stays
          rw [hl]
          omega
      · exact Mono.refl s
    · exact Mono.refl s
theorem mono_reckon (s : V) : Mono s s.reckon := mono_reckonN _ s
theorem Mono.after {s u t : V} (h : Mono u t) (hv : s.view ≤ u.view) (hn : s.normal ≤ u.normal) (hm : u.me = s.me) (hy : u.many = s.many) (hs : u.stays = s.stays) : Mono s t :=
  ⟨Int.le_trans hv h.view, Int.le_trans hn h.normal, h.me.trans hm, h.many.trans hy, by rw [← hs]; exact h.stays, fun k => h.more (by rw [hs]; exact k)⟩
theorem mono_count {s : V} (hn : s.normal ≤ s.view) : Mono s s.count := by
  unfold V.count
  split
  · exact (mono_reckon _).after (Int.le_refl _) hn rfl rfl rfl
  · exact Mono.refl s
theorem mono_fresh {s : V} (v : Int) (h : s.view ≤ v) : Mono s (s.fresh v) := ⟨h, Int.le_refl _, rfl, rfl, Int.le_refl _, fun h => by simp [V.fresh] at h⟩
theorem mono_turn {s : V} (o : OkV s) : Mono s s.turn.1 := by
  unfold V.turn
  split
  · exact Mono.refl s
  · exact (mono_count (s := s.fresh (s.view + 1)) (by show s.normal ≤ s.view + 1; have := o.normal; omega)).after (by show s.view ≤ s.view + 1; omega) (Int.le_refl _) rfl rfl rfl
theorem mono_propose {s : V} (e : ByteArray) : Mono s (s.propose e).1 := by
  unfold V.propose
  split
  · exact (mono_reckon _).after (Int.le_refl _) (Int.le_refl _) rfl rfl rfl
  · exact Mono.refl s
theorem mono_got {s : V} (o : OkV s) (fr : Int) (l : Ltr) : Mono s (s.got fr l) := by
  have hn := o.normal.2
  unfold V.got
  split
  · dsimp only
    split
    · refine ⟨Int.le_refl _, hn, rfl, rfl, ?_, fun h => ?_⟩
      · show s.stays ≤ imax s.stays (imin l.stays l.log.length)
        unfold imax; split <;> omega
      · change s.stays < imax s.stays (imin l.stays l.log.length) at h
        show imax s.stays (imin l.stays l.log.length) ≤ l.log.length
        unfold imax imin at h ⊢
        split at h <;> split <;> split at h <;> split <;> omega
    · refine ⟨Int.le_refl _, Int.le_refl _, rfl, rfl, ?_, fun h => ?_⟩
      · show s.stays ≤ imax s.stays (imin l.stays s.log.length)
        unfold imax; split <;> omega
      · change s.stays < imax s.stays (imin l.stays s.log.length) at h
        show imax s.stays (imin l.stays s.log.length) ≤ s.log.length
        unfold imax imin at h ⊢
        split at h <;> split <;> split at h <;> split <;> omega
  · split
    · exact (mono_reckon _).after (Int.le_refl _) (Int.le_refl _) rfl rfl rfl
    · split
      · exact (mono_count (s := { s with changes := s.changes.set fr.toNat (some (l.normal, l.log)) }) hn).after (Int.le_refl _) (Int.le_refl _) rfl rfl rfl
      · exact Mono.refl s
theorem mono_take {s : V} (o : OkV s) (fr : Int) (l : Ltr) : Mono s (s.take fr l).1 := by
  unfold V.take
  split
  · next c =>
    simp only [Bool.and_eq_true] at c
    have hf := right_facts c.2
    dsimp only
    split
    · next h => exact (mono_got (okv_fresh o l.view (by omega) (by omega)) fr l).after (by show s.view ≤ l.view; omega) (Int.le_refl _) rfl rfl rfl
    · exact mono_got o fr l
  · exact Mono.refl s
theorem newV_of {s : V} (o : OkV s) : newV s.me s.many s.view s.normal s.log = some (made s.me s.many s.view s.normal s.log) := by
  unfold newV
  rw [if_pos]
  · rfl
  · simp only [Bool.and_eq_true, decide_eq_true_eq]
    exact ⟨o.many.1, o.many.2, o.me.1, o.me.2, o.log, o.normal.1, o.normal.2, o.view⟩
theorem made_first (s : V) : (made s.me s.many s.view s.normal s.log).firstB = s.firstB := rfl
theorem made_send (s : V) (k : Int) : (made s.me s.many s.view s.normal s.log).send k = ({ (s.send k).1 with stays := 0 }, (s.send k).2) := by
  unfold V.send
  have e1 : (made s.me s.many s.view s.normal s.log).otherB k = s.otherB k := rfl
  have e2 : (made s.me s.many s.view s.normal s.log).firstB = s.firstB := rfl
  have e3 : (made s.me s.many s.view s.normal s.log).first = s.first := rfl
  have e4 : (made s.me s.many s.view s.normal s.log).normalB = s.normalB := rfl
  rw [e1, e2, e3, e4]
  split
  · rfl
  · split
    · rfl
    · split
      · rfl
      · split <;> rfl
theorem send_log (s : V) (k : Int) : (s.send k).1.log = s.log ∨ (s.send k).1.log = [] := by
  unfold V.send
  split
  · exact .inr rfl
  · split
    · exact .inl rfl
    · split
      · exact .inr rfl
      · split
        · exact .inr rfl
        · exact .inl rfl
theorem send_len (s : V) (k : Int) : (s.send k).1.log.length ≤ s.log.length := by
  rcases send_log s k with h | h
  · rw [h]; exact Nat.le_refl _
  · rw [h]; exact Nat.zero_le _
theorem sameLt_self (a : Ltr) : sameLt a a = true := by
  unfold sameLt
  simp [(eqL_iff a.log a.log).2 rfl]
end Go.Proofs.Ytndnjmgmdkkifaa.Vw1
