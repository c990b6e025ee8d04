/- Views in memory: the walk of turn. -/
import Derived.Test.YtndnjmgmdkkifaaVw1
/- Views in memory: what lives on over calls; the walk of turn. -/
namespace Go.Proofs.Ytndnjmgmdkkifaa.Vw1
open Go Go.RowKit Go.Maps Go.Proofs Go.Proofs.Ytndnjmgmdkkifaa.New Go.Proofs.Ytndnjmgmdkkifaa.Vw Go.Proofs.Ytndnjmgmdkkifaa.Vw0 Go.Proofs.Ytndnjmgmdkkifaa.Vw1 Go.Proofs.YtndnjmgmdkkifaaW.PrintWords Go.Proofs.YtndnjmgmdkkifaaW.PrintLast Go.Proofs.YtndnjmgmdkkifaaW.PrintMore
set_option linter.unusedVariables false
set_option linter.unusedSimpArgs false

theorem blk_lt' {W : World} {k : Nat} {o : Obj} (h : W.heap[k]? = some o) : k < W.heap.size := (Array.getElem?_eq_some_iff.1 h).1
theorem Fr.refl (w : World) (p am cm : Nat) : Fr w w p am cm := ⟨Nat.le_refl _, fun _ _ _ _ _ => rfl, rfl, rfl, rfl, fun _ g h => .inl h⟩
theorem Fr.below {w w1 w2 : World} {p am cm : Nat} (h : Fr w w1 p am cm) (hb : Below w1.heap.size w1 w2) : Fr w w2 p am cm :=
  ⟨Nat.le_trans h.size hb.size, fun k hk h1 h2 h3 => (hb.block k (Nat.lt_of_lt_of_le hk h.size)).trans (h.block k hk h1 h2 h3), hb.os.trans h.os, hb.tape.trans h.tape, hb.output.trans h.output, fun hp g hg => h.log hp g (by rw [← LogB_of (hb.block p (Nat.lt_of_lt_of_le hp h.size))]; exact hg)⟩
theorem Fr.of_below {w w2 : World} {p am cm : Nat} (hb : Below w.heap.size w w2) : Fr w w2 p am cm := Fr.below (Fr.refl w p am cm) hb
theorem Fr.trans {w w1 w2 : World} {p am cm am1 cm1 : Nat} (h : Fr w w1 p am cm) (k : Fr w1 w2 p am1 cm1) (ha : am1 = am ∨ w.heap.size ≤ am1) (hc : cm1 = cm ∨ w.heap.size ≤ cm1) : Fr w w2 p am cm :=
  ⟨Nat.le_trans h.size k.size, fun i hi h1 h2 h3 => (k.block i (Nat.lt_of_lt_of_le hi h.size) h1 (fun e => by rcases ha with a | a; exact h2 (e.trans a); omega) (fun e => by rcases hc with a | a; exact h3 (e.trans a); omega)).trans (h.block i hi h1 h2 h3), k.os.trans h.os, k.tape.trans h.tape, k.output.trans h.output, fun hp g hg => by
    rcases k.log (Nat.lt_of_lt_of_le hp h.size) g hg with a | a
    · exact h.log hp g a
    · exact .inr (Nat.le_trans h.size a)⟩
theorem VRep.lt {W : World} {p am cm : Nat} {s : V} (h : VRep W p am cm s) : p < W.heap.size ∧ am < W.heap.size ∧ cm < W.heap.size := by
  obtain ⟨A, c, h1, _⟩ := h.blk
  obtain ⟨_, _, h2, _⟩ := h.ack
  obtain ⟨_, _, h3, _⟩ := h.chg
  exact ⟨blk_lt' h1, h2.own.lt, h3.own.lt⟩
theorem VRep.kinds {W : World} {p am cm : Nat} {s : V} (h : VRep W p am cm s) {k : Nat} {cells : Array Value} {fr : Nat × Nat} (hk : W.heap[k]? = some (Obj.cells cells 9 fr)) : k ≠ p ∧ k ≠ am ∧ k ≠ cm := by
  obtain ⟨A, c, h1, _⟩ := h.blk
  obtain ⟨_, _, h2, _⟩ := h.ack
  obtain ⟨_, _, h3, _⟩ := h.chg
  refine ⟨fun e => ?_, fun e => ?_, fun e => ?_⟩
  · subst e; rw [show W.heap[k]? = _ from h1] at hk; cases hk
  · subst e; obtain ⟨es, cl, h⟩ := own_kind h2.own; rw [h] at hk; cases hk
  · subst e; obtain ⟨es, cl, h⟩ := own_kind h3.own; rw [h] at hk; cases hk
/-- a log lives on over a call of a part's -/
theorem Rd.fr {W W' : World} {p am cm : Nat} {s : V} {v : Value} {l : Log} (h : Rd W v l) (hv : VRep W p am cm s) (hf : Fr W W' p am cm) : Rd W' v l :=
  h.keep fun k cells fr hk => by
    obtain ⟨h1, h2, h3⟩ := hv.kinds hk
    exact hf.block k (blk_lt' hk) h1 h2 h3
theorem Rd.below {W W' : World} {v : Value} {l : Log} (h : Rd W v l) (hb : Below W.heap.size W W') : Rd W' v l := h.keep fun k cells fr hk => hb.block k (blk_lt' hk)
theorem IsC.keep {W W' : World} {v : Value} {x : Int × Log} (h : IsC W v x) (hk : ∀ {v : Value} {l : Log}, Rd W v l → Rd W' v l) : IsC W' v x := by
  obtain ⟨lv, e, h⟩ := h
  exact ⟨lv, e, hk h⟩
theorem OC.keep {W W' : World} {cm n : Nat} {cs : List (Option (Int × Log))} {D : Dc} (h : OC W cm cs n D) (hb : W'.heap[cm]? = W.heap[cm]?) (hk : ∀ {v : Value} {l : Log}, Rd W v l → Rd W' v l) : OC W' cm cs n D :=
  ⟨own_block h.own hb, h.none_, fun i x hi hx => by
    obtain ⟨h1, v, h2, h3⟩ := h.some_ i x hi hx
    exact ⟨h1, v, h2, h3.keep hk⟩, h.has, h.sz⟩
theorem VRep.keep {W W' : World} {p am cm : Nat} {s : V} (h : VRep W p am cm s) (hp : W'.heap[p]? = W.heap[p]?) (ha : W'.heap[am]? = W.heap[am]?) (hc : W'.heap[cm]? = W.heap[cm]?) (hk : ∀ {v : Value} {l : Log}, Rd W v l → Rd W' v l) : VRep W' p am cm s := by
  obtain ⟨⟨A, c, h1, h2⟩, ⟨n, D, h3, h4⟩, ⟨m, E, h5, h6⟩, h7⟩ := h
  exact ⟨⟨A, c, hp.trans h1, hk h2⟩, ⟨n, D, ⟨own_block h3.own ha, h3.at_, h3.has, h3.sz⟩, h4⟩, ⟨m, E, h5.keep hc hk, h6⟩, h7⟩
theorem VRep.below {W W' : World} {p am cm : Nat} {s : V} (h : VRep W p am cm s) (hb : Below W.heap.size W W') : VRep W' p am cm s :=
  h.keep (hb.block _ h.lt.1) (hb.block _ h.lt.2.1) (hb.block _ h.lt.2.2) (fun hr => hr.below hb)
/-- another part lives on -/
theorem VRep.other {W W' : World} {p am cm p2 am2 cm2 : Nat} {s s2 : V} (h : VRep W p2 am2 cm2 s2) (hv : VRep W p am cm s) (hf : Fr W W' p am cm) (hs : ∀ k, (k = p2 ∨ k = am2 ∨ k = cm2) → k ≠ p ∧ k ≠ am ∧ k ≠ cm) : VRep W' p2 am2 cm2 s2 := by
  have go : ∀ k, (k = p2 ∨ k = am2 ∨ k = cm2) → k < W.heap.size → W'.heap[k]? = W.heap[k]? := fun k hk hl => hf.block k hl (hs k hk).1 (hs k hk).2.1 (hs k hk).2.2
  exact h.keep (go _ (.inl rfl) h.lt.1) (go _ (.inr (.inl rfl)) h.lt.2.1) (go _ (.inr (.inr rfl)) h.lt.2.2) (fun hr => hr.fr hv hf)
/-- what a call makes of a part -/
def Mv (w w' : World) (p am cm : Nat) (s' : V) : Prop := ∃ am' cm', VRep w' p am' cm' s' ∧ Fr w w' p am cm ∧ (am' = am ∨ w.heap.size ≤ am') ∧ (cm' = cm ∨ w.heap.size ≤ cm')
end Go.Proofs.Ytndnjmgmdkkifaa.Vw1
namespace Go.Proofs.Ytndnjmgmdkkifaa.Vw1
open Go Go.RowKit Go.Maps Go.Proofs Go.Proofs.Ytndnjmgmdkkifaa.New Go.Proofs.Ytndnjmgmdkkifaa.Vw Go.Proofs.Ytndnjmgmdkkifaa.Vw0 Go.Proofs.YtndnjmgmdkkifaaW.PrintWords Go.Proofs.YtndnjmgmdkkifaaW.PrintLast Go.Proofs.YtndnjmgmdkkifaaW.PrintMore
set_option linter.unusedVariables false
set_option linter.unusedSimpArgs false

theorem oa_nil (W : World) (m : Int) : OA (W.alloc (.map #[] 0)) W.heap.size (List.replicate m.toNat 0) 0 (.map []) :=
  ⟨World.ownsMap_made _ _ _ _, fun i hi => by
    rw [List.length_replicate] at hi
    simp [List.getD_eq_getElem?_getD, hi, aOf, DataW.atKey], fun i hi => by simp [has_eq] at hi, (by simp [size_eq, cntH, has_eq, List.countP_eq_zero])⟩
theorem oc_nil (W : World) (m : Int) : OC (W.alloc (.map #[] 0)) W.heap.size (List.replicate m.toNat none) 0 (.map []) :=
  ⟨World.ownsMap_made _ _ _ _, fun i hi _ => by simp [has_eq], fun i x hi hx => by
    rw [List.length_replicate] at hi
    simp [List.getD_eq_getElem?_getD, hi] at hx, fun i hi => by simp [has_eq] at hi, (by simp [size_eq, cntH, has_eq, List.countP_eq_zero])⟩
/-- a store into a part's block changes that alone -/
theorem logB_set (W : World) (p j : Nat) (u : Value) (hj : j ≠ 2) : LogB (W.setCell ⟨p, j, none⟩ u) p = LogB W p := by
  unfold LogB
  cases hb : W.heap[p]? with
  | none =>
    have : (W.setCell ⟨p, j, none⟩ u).heap[p]? = none := by
      rw [Array.getElem?_eq_none_iff] at hb ⊢
      rw [World.size_setCell]
      exact hb
    rw [this]
  | some o =>
    simp only [World.setCell, Array.getElem?_modify, hb, if_true, Option.map_some]
    cases o <;> simp [hj, Array.getElem?_setIfInBounds, Ne.symm hj]
theorem set_fr {w W : World} {p am cm : Nat} (h : Fr w W p am cm) (j : Nat) (u : Value) (hj : j ≠ 2 := by decide) : Fr w (W.setCell ⟨p, j, none⟩ u) p am cm :=
  ⟨by rw [World.size_setCell]; exact h.size, fun k hk h1 h2 h3 => (Below.heap_setCell W ⟨p, j, none⟩ u k h1).trans (h.block k hk h1 h2 h3), h.os, h.tape, h.output, fun hp g hg => h.log hp g (by rw [← logB_set W p j u hj]; exact hg)⟩
theorem logB_set2 {W : World} {p : Nat} {u : Value} {g : Nat} (h : LogB (W.setCell ⟨p, 2, none⟩ u) p = some g) : u.ownBlock = some g ∨ LogB W p = some g := by
  unfold LogB at h ⊢
  cases hb : W.heap[p]? with
  | none =>
    have : (W.setCell ⟨p, 2, none⟩ u).heap[p]? = none := by
      rw [Array.getElem?_eq_none_iff] at hb ⊢
      rw [World.size_setCell]
      exact hb
    rw [this] at h
    cases h
  | some o =>
    simp only [World.setCell, Array.getElem?_modify, hb, if_true, Option.map_some] at h
    cases o with
    | cells cs t fr =>
      by_cases c : 2 < cs.size
      · left
        simpa [Array.getElem?_setIfInBounds, c] using h
      · simp [Array.getElem?_setIfInBounds, c] at h
    | _ => simp at h
theorem set_fr2 {w W : World} {p am cm : Nat} (h : Fr w W p am cm) (u : Value) (hu : p < w.heap.size → ∀ k, u.ownBlock = some k → w.heap.size ≤ k) : Fr w (W.setCell ⟨p, 2, none⟩ u) p am cm :=
  ⟨by rw [World.size_setCell]; exact h.size, fun k hk h1 h2 h3 => (Below.heap_setCell W ⟨p, 2, none⟩ u k h1).trans (h.block k hk h1 h2 h3), h.os, h.tape, h.output, fun hp g hg => by
    rcases logB_set2 hg with e | e
    · exact .inr (hu hp g e)
    · exact h.log hp g e⟩
theorem R_fresh {w : World} {B : Nat} {ok : Nat → Prop} {v : Value} {l : Log} (h : Kd.R Kd.string 9 w B ok v l) : ∀ k, v.ownBlock = some k → B ≤ k := own_base (Kd.own_of_R (enc := Value.string) (h1 := fun _ => rfl) h)
theorem alloc_fr {w W : World} {p am cm : Nat} (h : Fr w W p am cm) (o : Obj) : Fr w (W.alloc o) p am cm := h.below (below_alloc (Below.refl _ _) o)
set_option maxRecDepth 100000 in
theorem turn_calls {W : World} {p am cm : Nat} {s : V} (h : VRep W p am cm s) (view' : Int) :
    Calls Try.prog 36 #[.pointer (some ⟨p, 0, none⟩), .int .i64 view'] W fun e w' => e = .returned (.tuple #[]) ∧ Mv W w' p am cm (s.fresh view') := by
  have hlt := h.lt.1
  obtain ⟨A, c, hb, hrd⟩ := h.blk
  obtain ⟨h0, h1, h2, h3, h4, h5, h6, h7⟩ := cells8 hb
  have f0 := blk_frozen hb 0
  have f6 := blk_frozen hb 6
  have f7 := blk_frozen hb 7
  have HH := Lib.hid h
  have HB := Lib.hid hb
  have HRD := Lib.hid hrd
  have hmm := @run_makeMap Try.prog
  clear h hb hrd h1 h2 h3 h4 h5
  go_enter Try.func36, Try.ntmps36
  go_wp2_with fail
  go_end0
  have hsz : (((W.setCell ⟨p, 0, none⟩ (.int .i64 view')).setCell ⟨p, 6, none⟩ (.map (some W.heap.size))).setCell ⟨p, 7, none⟩ (.map (some (W.heap.size + 1)))).heap.size = W.heap.size := by
    rw [World.size_setCell, World.size_setCell, World.size_setCell]
  have hF := set_fr (set_fr (set_fr (Fr.refl W p am cm) 0 (.int .i64 view')) 6 (.map (some W.heap.size))) 7 (.map (some (W.heap.size + 1)))
  have hBK : (((W.setCell ⟨p, 0, none⟩ (.int .i64 view')).setCell ⟨p, 6, none⟩ (.map (some W.heap.size))).setCell ⟨p, 7, none⟩ (.map (some (W.heap.size + 1)))).heap[p]? = some (.cells #[.int .i64 view', .int .i64 s.normal, .slice A s.log.length c, .int .i64 s.me, .int .i64 s.many, .int .i64 s.stays, .map (some W.heap.size), .map (some (W.heap.size + 1))] 73 (0, 0)) :=
    blk_put (blk_put (blk_put HB.out 0 _ rfl) 6 _ rfl) 7 _ rfl
  have hRD := HRD.out.fr HH.out hF
  generalize (((W.setCell ⟨p, 0, none⟩ (.int .i64 view')).setCell ⟨p, 6, none⟩ (.map (some W.heap.size))).setCell ⟨p, 7, none⟩ (.map (some (W.heap.size + 1)))) = W3 at hsz hF hBK hRD ⊢
  have hs2 : (W3.alloc (.map #[] 0)).heap.size = W.heap.size + 1 := by show (W3.heap.push _).size = _; simp [hsz]
  refine ⟨rfl, W.heap.size, W.heap.size + 1, ⟨⟨A, c, blk_alloc (blk_alloc hBK _) _, (hRD.below (below_alloc (Below.refl _ _) _)).below (below_alloc (Below.refl _ _) _)⟩, ⟨0, .map [], ?_, by omega⟩, ⟨0, .map [], ?_, by omega⟩, by omega⟩, alloc_fr (alloc_fr hF _) _, .inr (Nat.le_refl _), .inr (by omega)⟩
  · have := oa_nil W3 s.many
    rw [hsz] at this
    exact ⟨own_block this.own (below_alloc (Below.refl _ _) _ |>.block _ (by rw [hs2]; omega)), this.at_, this.has, this.sz⟩
  · have := oc_nil (W3.alloc (.map #[] 0)) s.many
    rw [hs2] at this
    exact this
end Go.Proofs.Ytndnjmgmdkkifaa.Vw1
