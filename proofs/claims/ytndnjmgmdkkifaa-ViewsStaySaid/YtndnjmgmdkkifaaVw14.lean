/- Views in memory: a part as the laws see it; the walk of New on the ways on which there is none; Same, SameSaved, greatLog. -/
import Derived.Test.YtndnjmgmdkkifaaVw13

namespace Go.Proofs.Ytndnjmgmdkkifaa.Vw1
open Go Go.RowKit Go.Maps Go.Proofs Go.Proofs.Ytndnjmgmdkkifaa.New Go.Proofs.Ytndnjmgmdkkifaa.Vw Go.Proofs.Ytndnjmgmdkkifaa.Vw0 Go.Proofs.YtndnjmgmdkkifaaW.PrintWords Go.Proofs.YtndnjmgmdkkifaaW.PrintLast Go.Proofs.YtndnjmgmdkkifaaW.PrintMore
set_option linter.unusedVariables false
set_option linter.unusedSimpArgs false

/-- a part of the call's own -/
structure Pt (B : Nat) (w : World) (p : Nat) (s : V) : Prop where
  ok : OkV s
  base : B ≤ p
  maps : ∃ am cm, VRep w p am cm s ∧ B ≤ am ∧ B ≤ cm
/-- what a step of a part's does: below B all is as it was, and so is each row but the part's own block -/
structure Stp (B p : Nat) (w w' : World) : Prop where
  below : Below B w w'
  rows : ∀ (k : Nat) (cs : Array Value) (t : TypeId) (fr : Nat × Nat), k ≠ p → w.heap[k]? = some (.cells cs t fr) → w'.heap[k]? = some (.cells cs t fr)
theorem Stp.of_fr {B : Nat} {w w' : World} {p am cm : Nat} {s : V} (h : VRep w p am cm s) (f : Fr w w' p am cm) (hp : B ≤ p) (ha : B ≤ am) (hc : B ≤ cm) (hB : B ≤ w.heap.size) : Stp B p w w' :=
  ⟨⟨f.os, f.tape, f.output, f.size, fun k hk => f.block k (by omega) (by omega) (by omega) (by omega)⟩, fun k cs t fr hk hb => by
    obtain ⟨A, c, h1, _⟩ := h.blk
    obtain ⟨_, _, h2, _⟩ := h.ack
    obtain ⟨_, _, h3, _⟩ := h.chg
    rw [f.block k (blk_lt' hb) hk (fun e => by subst e; obtain ⟨es, cl, h⟩ := own_kind h2.own; rw [h] at hb; cases hb) (fun e => by subst e; obtain ⟨es, cl, h⟩ := own_kind h3.own; rw [h] at hb; cases hb)]
    exact hb⟩
theorem Stp.refl (B p : Nat) (w : World) : Stp B p w w := ⟨Below.refl _ _, fun _ _ _ _ _ h => h⟩
theorem Stp.trans {B p : Nat} {w w1 w2 : World} (h : Stp B p w w1) (k : Stp B p w1 w2) : Stp B p w w2 := ⟨h.below.trans k.below, fun i cs t fr hi hb => k.rows i cs t fr hi (h.rows i cs t fr hi hb)⟩
theorem Stp.of_below {B p : Nat} {w w' : World} (h : Below w.heap.size w w') (hB : B ≤ w.heap.size) : Stp B p w w' := ⟨h.mono hB, fun k cs t fr _ hb => (h.block k (blk_lt' hb)).trans hb⟩
theorem Pt.below {B : Nat} {w w' : World} {p : Nat} {s : V} (h : Pt B w p s) (hb : Below w.heap.size w w') : Pt B w' p s := by
  obtain ⟨o, b, am, cm, hv, ha, hc⟩ := h
  exact ⟨o, b, am, cm, hv.below hb, ha, hc⟩
theorem Pt.lt {B : Nat} {w : World} {p : Nat} {s : V} (h : Pt B w p s) : p < w.heap.size := by
  obtain ⟨o, b, am, cm, hv, ha, hc⟩ := h
  exact hv.lt.1
/-- a row of another type lives on -/
theorem Stp.row {B : Nat} {w w' : World} {p : Nat} {s : V} (h : Stp B p w w') (hp : Pt B w p s) {k : Nat} {cs : Array Value} {t : TypeId} {fr : Nat × Nat} (ht : t ≠ 73) (hb : w.heap[k]? = some (.cells cs t fr)) : w'.heap[k]? = some (.cells cs t fr) := by
  refine h.rows k cs t fr (fun e => ?_) hb
  subst e
  obtain ⟨o, b, am, cm, hv, ha, hc⟩ := hp
  obtain ⟨A, c, h1, _⟩ := hv.blk
  rw [show w.heap[k]? = _ from h1] at hb
  cases hb
  exact ht rfl
theorem Rd.stp {B : Nat} {w w' : World} {p : Nat} {s : V} {v : Value} {l : Log} (h : Rd w v l) (hp : Pt B w p s) (hs : Stp B p w w') : Rd w' v l :=
  h.keep fun k cells fr hk => (hs.row hp (by decide) hk).trans hk.symm
theorem Pt.mv {B : Nat} {w w' : World} {p am cm : Nat} {s s' : V} (hv : VRep w p am cm s) (hp : B ≤ p) (ha : B ≤ am) (hc : B ≤ cm) (hB : B ≤ w.heap.size) (o : OkV s') (hm : Mv w w' p am cm s') : Pt B w' p s' ∧ Stp B p w w' := by
  obtain ⟨am', cm', hv', hf, ha', hc'⟩ := hm
  exact ⟨⟨o, hp, am', cm', hv', by rcases ha' with e | e <;> omega, by rcases hc' with e | e <;> omega⟩, Stp.of_fr hv hf hp ha hc hB⟩
section
variable {B : Nat} {W : World} {p : Nat} {s : V}
theorem pt_size (h : Pt B W p s) : B ≤ W.heap.size := Nat.le_of_lt (Nat.lt_of_le_of_lt h.base h.lt)
theorem pt_propose (h : Pt B W p s) (en : ByteArray) (he : en.size ≤ 140737488355328) :
    Calls Try.prog 14 #[.pointer (some ⟨p, 0, none⟩), .string en] W fun e w' => e = .returned (.bool (s.propose en).2) ∧ Pt B w' p (s.propose en).1 ∧ Stp B p W w' := by
  have hz := pt_size h
  obtain ⟨o, b, am, cm, hv, ha, hc⟩ := h
  exact (Propose_calls hv o en he).mono fun e w' ⟨h1, h2⟩ => ⟨h1, Pt.mv hv b ha hc hz (okv_propose o en) h2⟩
theorem pt_turn (h : Pt B W p s) :
    Calls Try.prog 16 #[.pointer (some ⟨p, 0, none⟩)] W fun e w' => e = .returned (.bool s.turn.2) ∧ Pt B w' p s.turn.1 ∧ Stp B p W w' := by
  have hz := pt_size h
  obtain ⟨o, b, am, cm, hv, ha, hc⟩ := h
  exact (Turn_calls hv o).mono fun e w' ⟨h1, h2⟩ => ⟨h1, Pt.mv hv b ha hc hz (okv_turn o) h2⟩
theorem pt_saved (h : Pt B W p s) :
    Calls Try.prog 21 #[.pointer (some ⟨p, 0, none⟩)] W fun e w' => ∃ A c, e = .returned (.agg #[.int .i64 s.view, .int .i64 s.normal, .slice A s.log.length c]) ∧ Rd w' (.slice A s.log.length c) s.log ∧ Below W.heap.size W w' := by
  obtain ⟨o, b, am, cm, hv, ha, hc⟩ := h
  exact Saved_calls hv o
theorem pt_send (h : Pt B W p s) (n : Int) :
    Calls Try.prog 25 #[.pointer (some ⟨p, 0, none⟩), .int .i64 n] W fun e w' => ∃ A c, e = .returned (.tuple #[ltrV (s.send n).1 A c, .bool (s.send n).2]) ∧ Rd w' (.slice A (s.send n).1.log.length c) (s.send n).1.log ∧ Below W.heap.size W w' := by
  obtain ⟨o, b, am, cm, hv, ha, hc⟩ := h
  exact Send_calls hv o n
theorem pt_first (h : Pt B W p s) : Calls Try.prog 23 #[.pointer (some ⟨p, 0, none⟩)] W fun e w' => e = .returned (.bool s.firstB) ∧ ∃ m, w' = W.drewN m := by
  obtain ⟨o, b, am, cm, hv, ha, hc⟩ := h
  obtain ⟨A, c, hb, _⟩ := hv.blk
  exact First_calls hb o
theorem pt_stays (h : Pt B W p s) : Calls Try.prog 22 #[.pointer (some ⟨p, 0, none⟩)] W fun e w' => e = .returned (.int .i64 s.stays) ∧ w' = W := by
  obtain ⟨o, b, am, cm, hv, ha, hc⟩ := h
  obtain ⟨A, c, hb, _⟩ := hv.blk
  exact stays_calls hb
end
theorem okv_made {me many view normal : Int} {log : Log} (b1 : 1 ≤ many) (b2 : many ≤ 5) (b3 : 0 ≤ me) (b4 : me < many) (b5 : rightL log = true) (b6 : 0 ≤ normal) (b7 : normal ≤ view) (b8 : view ≤ 281474976710656) : OkV (made me many view normal log) :=
  ⟨⟨b1, b2⟩, ⟨b3, b4⟩, ⟨b6, b7⟩, b8, b5, by show (0 : Int) ≤ 0 ∧ (0 : Int) ≤ 96; omega, by simp [made], fun n hn => by simp [made, List.mem_replicate] at hn; omega, by simp [made], fun c hc x hx => by simp [made, List.mem_replicate] at hc; rw [hc.2] at hx; cases hx⟩
theorem newV_some {me many view normal : Int} {log : Log} {s : V} (h : newV me many view normal log = some s) : (1 ≤ many ∧ many ≤ 5 ∧ 0 ≤ me ∧ me < many ∧ rightL log = true ∧ 0 ≤ normal ∧ normal ≤ view ∧ view ≤ 281474976710656) ∧ s = made me many view normal log := by
  unfold newV at h
  split at h
  · next hh =>
    simp only [Bool.and_eq_true, decide_eq_true_eq] at hh
    cases h
    exact ⟨hh, rfl⟩
  · cases h
theorem pt_new {W : World} {me many view normal : Int} {log : Log} {s : V} (h : newV me many view normal log = some s) (A : Option Addr) (c : Nat) (hrd : Kd.C Kd.string W A log.length log) :
    Calls Try.prog 12 #[.int .i64 me, .int .i64 many, .agg #[.int .i64 view, .int .i64 normal, .slice A log.length c]] W fun e w' => ∃ p, e = .returned (.pointer (some ⟨p, 0, none⟩)) ∧ Pt W.heap.size w' p s ∧ Below W.heap.size W w' := by
  obtain ⟨⟨b1, b2, b3, b4, b5, b6, b7, b8⟩, rfl⟩ := newV_some h
  exact (New_calls me many view normal log A c hrd b1 b2 b3 b4 b5 b6 b7 b8).mono fun e w' ⟨p, am, cm, h1, h2, h3, h4, h5, h6⟩ => ⟨p, h1, ⟨okv_made b1 b2 b3 b4 b5 b6 b7 b8, h4, am, cm, h2, h5, h6⟩, ⟨h3.os, h3.tape, h3.output, h3.size, fun k hk => h3.block k hk (by omega) (by omega) (by omega)⟩⟩
set_option maxHeartbeats 4000000 in
set_option maxRecDepth 100000 in
theorem new_nil {W : World} {me many view normal : Int} {log : Log} (h : newV me many view normal log = none) (A : Option Addr) (c : Nat) (hrd : Kd.C Kd.string W A log.length log) (hl : log.length ≤ 1000000) (hs : ∀ s ∈ log, s.size ≤ 140737488355328) :
    Calls Try.prog 12 #[.int .i64 me, .int .i64 many, .agg #[.int .i64 view, .int .i64 normal, .slice A log.length c]] W fun e w' => e = .returned (.pointer none) ∧ Below W.heap.size W w' := by
  have HRL := Lib.hid (fun W' (hw : Below W.heap.size W W') => rightLog_calls A c log W' (Kd.C_below hrd hw) hl hs)
  have h' : (decide (1 ≤ many) && (decide (many ≤ 5) && (decide (0 ≤ me) && (decide (me < many) && (rightL log && (decide (0 ≤ normal) && (decide (normal ≤ view) && decide (view ≤ 281474976710656)))))))) = false := by
    unfold newV at h
    split at h
    · cases h
    · next hh => simpa using hh
  clear h hrd hs
  obtain ⟨rl, hrl⟩ : ∃ b, rightL log = b := ⟨_, rfl⟩
  rw [hrl] at HRL h'
  clear hrl
  have H := Lib.hid h'
  clear h'
  have K : many < 1 ∨ (1 ≤ many ∧ many > 5) ∨ (1 ≤ many ∧ many ≤ 5 ∧ me < 0) ∨ (1 ≤ many ∧ many ≤ 5 ∧ 0 ≤ me ∧ me ≥ many) ∨ (1 ≤ many ∧ many ≤ 5 ∧ 0 ≤ me ∧ me < many) := by omega
  have K2 : rl = false ∨ (rl = true ∧ normal < 0) ∨ (rl = true ∧ 0 ≤ normal ∧ view < normal) ∨ (rl = true ∧ 0 ≤ normal ∧ normal ≤ view ∧ 281474976710656 < view) ∨ (rl = true ∧ 0 ≤ normal ∧ normal ≤ view ∧ view ≤ 281474976710656) := by cases rl <;> simp <;> omega
  rcases K with c1 | ⟨c1, c2⟩ | ⟨c1, c2, c3⟩ | ⟨c1, c2, c3, c4⟩ | ⟨c1, c2, c3, c4⟩
  all_goals rcases K2 with rfl | ⟨rfl, d1⟩ | ⟨rfl, d1, d2⟩ | ⟨rfl, d1, d2, d3⟩ | ⟨rfl, d1, d2, d3⟩
  all_goals (try have dd : decide (view ≤ 281474976710656) = false := decide_eq_false (by omega))
  all_goals first
    | (exfalso; have := H.out; simp at this; omega)
    | (go_enter Try.func12, Try.ntmps12
       go_wp2_with (go_at_call 34; refine (HRL.out _ ?_).mono ?_; exact (below_alloc (Below.refl _ _) _); rintro e w1 ⟨rfl, rfl⟩)
       go_ret
       exact ⟨rfl, below_alloc (Below.refl _ _) _⟩)
end Go.Proofs.Ytndnjmgmdkkifaa.Vw1
