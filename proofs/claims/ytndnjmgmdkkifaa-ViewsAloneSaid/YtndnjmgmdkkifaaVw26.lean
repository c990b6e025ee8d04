/- ViewsAlone: the plain law; a part's log and a row of the call's own. -/
import Derived.Test.YtndnjmgmdkkifaaVw22
namespace Go.Proofs.Ytndnjmgmdkkifaa.Vw1
open Go Go.RowKit Go.Maps Go.Proofs Go.Proofs.Ytndnjmgmdkkifaa.New Go.Proofs.Ytndnjmgmdkkifaa.Vw Go.Proofs.Ytndnjmgmdkkifaa.Vw0 Go.Proofs.Ytndnjmgmdkkifaa.Q Go.Proofs.YtndnjmgmdkkifaaW.PrintWords Go.Proofs.YtndnjmgmdkkifaaW.PrintLast Go.Proofs.YtndnjmgmdkkifaaW.PrintMore
set_option linter.unusedVariables false
set_option linter.unusedSimpArgs false

/-- one replica alone -/
def al (v : Int) (L : Log) : V := ⟨v, v, L, 0, 1, L.length, [0], [none]⟩
theorem al_made : made 0 1 0 0 [] = al 0 [] := rfl
theorem al_first (v : Int) (L : Log) : (al v L).firstB = true := by
  unfold V.firstB V.normalB al
  simp
theorem one_reckonN (v : Int) (L : Log) : ∀ (k st : Nat), st ≤ L.length → L.length - st ≤ k → reckonN k ⟨v, v, L, 0, 1, st, [0], [none]⟩ = al v L
  | 0, st, h1, h2 => by
    have : st = L.length := by omega
    rw [this]; rfl
  | k + 1, st, h1, h2 => by
    unfold reckonN
    by_cases c : st = L.length
    · rw [if_neg]
      · rw [c]; rfl
      · simp [c]
    · rw [if_pos, if_pos]
      · have := one_reckonN v L k (st + 1) (by omega) (by omega)
        rw [← this]
        rfl
      · unfold V.mostB V.others
        simp
      · unfold V.firstB V.normalB
        simp
        omega
theorem al_turn (v : Int) (L : Log) (h : v ≠ 281474976710656) : (al v L).turn = (al (v + 1) L, true) := by
  unfold V.turn
  rw [if_neg (show ¬ (al v L).view = _ from h)]
  have e : (al v L).fresh ((al v L).view + 1) = ⟨v + 1, v, L, 0, 1, L.length, [0], [none]⟩ := rfl
  rw [e]
  have c : V.count ⟨v + 1, v, L, 0, 1, L.length, [0], [none]⟩ = al (v + 1) L := by
    unfold V.count
    rw [if_pos]
    · exact one_reckonN (v + 1) L L.length L.length (Nat.le_refl _) (by omega)
    · unfold V.first V.normalB V.mostB V.told
      simp
      omega
  rw [c]
theorem al_propose (v : Int) (L : Log) (e : ByteArray) : (al v L).propose e = if rightL (L ++ [e]) = true then (al v (L ++ [e]), true) else (al v L, false) := by
  unfold V.propose
  rw [al_first, Bool.true_and]
  show (if rightL (L ++ [e]) = true then _ else _) = _
  split
  · have := one_reckonN v (L ++ [e]) (L ++ [e]).length L.length (by simp) (by simp)
    show (V.reckon ⟨v, v, L ++ [e], 0, 1, L.length, [0], [none]⟩, true) = _
    unfold V.reckon
    rw [this]
  · rfl
theorem bytes_app (l : Log) (e : ByteArray) : bytesN (l ++ [e]) = bytesN l + e.size := by
  have := bytesN_snoc (l ++ [e]) l.length (by simp)
  rw [List.take_of_length_le (by simp)] at this
  simpa using this
theorem fits_is {L : Log} (h : rightL L = true) (e : ByteArray) : rightL (L ++ [e]) = (decide (e.size ≤ 4096) && (decide (L.length < 96) && decide (bytesN L + e.size ≤ 14000))) := by
  have hs := rightL_size h
  unfold rightL at h ⊢
  rw [bytes_app, Bool.eq_iff_iff]
  simp only [Bool.and_eq_true, List.all_eq_true, decide_eq_true_eq, List.length_append, List.length_singleton, List.mem_append, List.mem_singleton]
  constructor
  · intro ⟨h1, h2, h3⟩
    exact ⟨h1 e (.inr rfl), by omega, h3⟩
  · intro ⟨h1, h2, h3⟩
    exact ⟨fun s k => by
      rcases k with k | rfl
      · exact hs s k
      · exact h1, by omega, h3⟩
section
variable {B : Nat} {W : World} {p : Nat} {s : V}
theorem pt_proposeL (h : Pt B W p s) (en : ByteArray) (he : en.size ≤ 140737488355328) :
    Calls Try.prog 14 #[.pointer (some ⟨p, 0, none⟩), .string en] W fun e w' => e = .returned (.bool (s.propose en).2) ∧ Pt B w' p (s.propose en).1 ∧ Stp B p W w' ∧ (∀ g, LogB w' p = some g → LogB W p = some g ∨ W.heap.size ≤ g) := by
  have hz := pt_size h
  have hlt := h.lt
  obtain ⟨o, b, am, cm, hv, ha, hc⟩ := h
  refine (Propose_calls hv o en he).mono fun e w' ⟨h1, h2⟩ => ?_
  have h3 := Pt.mv hv b ha hc hz (okv_propose o en) h2
  obtain ⟨_, _, _, hf, _⟩ := h2
  exact ⟨h1, h3.1, h3.2, hf.log hlt⟩
theorem pt_turnL (h : Pt B W p s) :
    Calls Try.prog 16 #[.pointer (some ⟨p, 0, none⟩)] W fun e w' => e = .returned (.bool s.turn.2) ∧ Pt B w' p s.turn.1 ∧ Stp B p W w' ∧ (∀ g, LogB w' p = some g → LogB W p = some g ∨ W.heap.size ≤ g) := by
  have hz := pt_size h
  have hlt := h.lt
  obtain ⟨o, b, am, cm, hv, ha, hc⟩ := h
  refine (Turn_calls hv o).mono fun e w' ⟨h1, h2⟩ => ?_
  have h3 := Pt.mv hv b ha hc hz (okv_turn o) h2
  obtain ⟨_, _, _, hf, _⟩ := h2
  exact ⟨h1, h3.1, h3.2, hf.log hlt⟩
/-- a row of strings of the call's own lives on over a part's step -/
theorem R_stp {v : Value} {l : Log} (h : Kd.R Kd.string 9 W B (fun _ => True) v l) (hp : Pt B W p s) {w' : World} (hs : Stp B p W w') : Kd.R Kd.string 9 w' B (fun _ => True) v l := by
  have ho := Kd.own_of_R (enc := Value.string) (h1 := fun _ => rfl) h
  refine Kd.R_of_own (enc := Value.string) (h1 := fun _ => rfl) (own_move ho fun k hk => ?_) (fun _ _ => trivial)
  obtain ⟨cells, hc⟩ := own_typed ho k hk
  exact (hs.row hp (by decide) hc).trans hc.symm
/-- the part's log lies elsewhere -/
def Apart (W : World) (p : Nat) (v : Value) : Prop := ∀ g, LogB W p = some g → v.ownBlock ≠ some g
theorem Apart.step {v : Value} {l : Log} (h : Apart W p v) (hr : Kd.R Kd.string 9 W B (fun _ => True) v l) {w' : World} (hl : ∀ g, LogB w' p = some g → LogB W p = some g ∨ W.heap.size ≤ g) : Apart w' p v := fun g hg e => by
  rcases hl g hg with k | k
  · exact h g k e
  · have := own_lt (Kd.own_of_R (enc := Value.string) (h1 := fun _ => rfl) hr) g e
    omega
theorem logB_rep {am cm : Nat} {A : Option Addr} {c : Nat} (h : Blk W p am cm A c s) : LogB W p = (Value.slice A s.log.length c).ownBlock := by
  unfold LogB
  rw [show W.heap[p]? = _ from h]
  rfl
/-- a part to which nothing was handed over lives on over an append to a row apart from it -/
theorem Pt.grown {v : Value} {l : Log} (h : Pt B W p s) (hn : ∀ c ∈ s.changes, c = none) (hr : Kd.R Kd.string 9 W B (fun _ => True) v l) (ha : Apart W p v) {w' : World} (hg : W.grownBy w' v.ownBlock) : Pt B w' p s := by
  have ho := Kd.own_of_R (enc := Value.string) (h1 := fun _ => rfl) hr
  have key : ∀ (k : Nat) (o : Obj), W.heap[k]? = some o → (∀ cells, o ≠ .cells cells 9 (0, 0)) → w'.heap[k]? = W.heap[k]? := fun k o hk hne => by
    refine hg.block k (blk_lt' hk) (fun e => ?_)
    obtain ⟨cells, hc⟩ := own_typed ho k e.symm
    rw [hk] at hc
    cases hc
    exact hne _ rfl
  obtain ⟨o, b, am, cm, hv, hA, hC⟩ := h
  obtain ⟨⟨A, c, h1, h2⟩, ⟨n, D, h3, h4⟩, ⟨m, E, h5, h6⟩, h7⟩ := hv
  refine ⟨o, b, am, cm, ⟨⟨A, c, (key p _ h1 (fun _ e => by cases e)).trans h1, ?_⟩, ⟨n, D, ⟨own_block h3.own ?_, h3.at_, h3.has, h3.sz⟩, h4⟩, ⟨m, E, ⟨own_block h5.own ?_, h5.none_, fun i x hi hx => ?_, h5.has, h5.sz⟩, h6⟩, h7⟩, hA, hC⟩
  · obtain ⟨A2, c2, e, k1, k2, k3⟩ := h2
    cases e
    have hb : ∀ ad, A = some ad → 0 < s.log.length → w'.heap[ad.block]? = W.heap[ad.block]? := fun ad hA hp => by
      obtain ⟨cells, fr, hc⟩ := k3 ad hA hp
      refine hg.block _ (blk_lt' hc) (fun e => ?_)
      refine ha ad.block ?_ e.symm
      rw [logB_rep h1, hA]
      rfl
    exact ⟨A, c, rfl, k1, C_keep k2 hb, fun ad hA hp => by
      obtain ⟨cells, fr, hc⟩ := k3 ad hA hp
      exact ⟨cells, fr, (hb ad hA hp).trans hc⟩⟩
  · obtain ⟨es, cl, hh⟩ := own_kind h3.own
    exact key am _ hh (fun _ e => by cases e)
  · obtain ⟨es, cl, hh⟩ := own_kind h5.own
    exact key cm _ hh (fun _ e => by cases e)
  · have := hn (some x) (by
      have hx2 : s.changes.getD i none = some x := hx
      rw [List.getD_eq_getElem?_getD, List.getElem?_eq_getElem hi] at hx2
      rw [← show s.changes[i] = some x from hx2]
      exact List.getElem_mem hi)
    cases this
theorem Apart.grown {v v1 : Value} {l : Log} (h : Pt B W p s) (hl : 0 < s.log.length) (ha : Apart W p v) (hr : Kd.R Kd.string 9 W B (fun _ => True) v l) {w' : World} (hg : W.grownBy w' v.ownBlock) (hat : v1.ownBlock = v.ownBlock ∨ ∃ b, v1.ownBlock = some b ∧ W.heap.size ≤ b) : Apart w' p v1 := fun g hgl e => by
  have ho := Kd.own_of_R (enc := Value.string) (h1 := fun _ => rfl) hr
  obtain ⟨o, b, am, cm, hv, hA, hC⟩ := h
  obtain ⟨A, c, h1, h2⟩ := hv.blk
  have hpe : w'.heap[p]? = W.heap[p]? := hg.block p (blk_lt' h1) (fun e => by
    obtain ⟨cells, hc⟩ := own_typed ho p e.symm
    rw [show W.heap[p]? = _ from h1] at hc; cases hc)
  rw [LogB_of hpe] at hgl
  rcases hat with k | ⟨b2, k, k2⟩
  · exact ha g hgl (k ▸ e)
  · rw [k] at e
    cases e
    rw [logB_rep h1] at hgl
    obtain ⟨A2, c2, e2, _, _, k3⟩ := h2
    cases e2
    cases A with
    | none => cases hgl
    | some ad =>
      cases hgl
      obtain ⟨cells, fr, hc⟩ := k3 ad rfl hl
      have := blk_lt' hc
      omega
theorem Pt.alloc {h : Pt B W p s} (o : Obj) : Pt B (W.alloc o) p s := h.below (below_alloc (Below.refl _ _) o)
end
end Go.Proofs.Ytndnjmgmdkkifaa.Vw1
