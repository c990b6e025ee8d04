/- A team in memory: a letter more, or less, on its way; a replica begun anew; what one saved. -/
import Derived.Test.YtndnjmgmdkkifaaVw29
namespace Go.Proofs.Ytndnjmgmdkkifaa.Vw1
open Go Go.RowKit Go.Maps Go.Proofs Go.Proofs.Ytndnjmgmdkkifaa.New Go.Proofs.Ytndnjmgmdkkifaa.Vw Go.Proofs.Ytndnjmgmdkkifaa.Vw0 Go.Proofs.Ytndnjmgmdkkifaa.Q Go.Proofs.YtndnjmgmdkkifaaW.PrintWords Go.Proofs.YtndnjmgmdkkifaaW.PrintLast Go.Proofs.YtndnjmgmdkkifaaW.PrintMore
set_option linter.unusedVariables false
set_option linter.unusedSimpArgs false

section
variable {B : Nat} {W w' : World} {tb n : Nat} {p : Nat → Nat} {r r' : Nat → V} {sv : Nat → Sv} {way way' : List St.Fly}
/-- the rows that a row's own change may be of -/
def RowOk (W : World) (row : Option Nat) : Prop := ∀ g, row = some g → ∃ cs t fr, W.heap[g]? = some (.cells cs t fr) ∧ t ≠ 73 ∧ t ≠ 9
theorem Rows9.grown {row : Option Nat} (hg : W.grownBy w' row) (hrow : RowOk W row) : Rows9 W w' := fun k cells fr hk => by
  refine (hg.block k (blk_lt' hk) (fun e => ?_)).trans hk
  obtain ⟨cs, t, fr2, h, _, h9⟩ := hrow k e.symm
  rw [hk] at h; cases h
  exact h9 rfl
theorem Parts.grown {row : Option Nat} (h : Parts B W n p r) (hg : W.grownBy w' row) (hrow : RowOk W row) : Parts B w' n p r := by
  have hr : ∀ {v : Value} {l : Log}, Rd W v l → Rd w' v l := fun hr => hr.rows9 (Rows9.grown hg hrow)
  have key : ∀ (k : Nat) (o : Obj), W.heap[k]? = some o → (∀ cs t fr, o = .cells cs t fr → t = 73 ∨ t = 9) → w'.heap[k]? = W.heap[k]? := fun k o hk hc => by
    refine hg.block k (blk_lt' hk) (fun e => ?_)
    obtain ⟨cs, t, fr, h, h1, h2⟩ := hrow k e.symm
    rw [hk] at h; cases h
    rcases hc _ _ _ rfl with e | e
    · exact h1 e
    · exact h2 e
  obtain ⟨own, h⟩ := h
  refine ⟨own, fun i hi => ?_⟩
  obtain ⟨o, b, e, am, cm, hv, rest⟩ := h i hi
  refine ⟨o, b, e, am, cm, ?_, rest⟩
  obtain ⟨A, c, k1, _⟩ := id hv.blk
  obtain ⟨_, _, k2, _⟩ := id hv.ack
  obtain ⟨_, _, k3, _⟩ := id hv.chg
  obtain ⟨e2, c2, k2⟩ := own_kind k2.own
  obtain ⟨e3, c3, k3⟩ := own_kind k3.own
  exact hv.keep (key _ _ k1 (fun _ _ _ e => by cases e; exact .inl rfl)) (key _ _ k2 (fun _ _ _ e => by cases e)) (key _ _ k3 (fun _ _ _ e => by cases e)) hr
theorem grown_set (w : World) (g j : Nat) (u : Value) : w.grownBy (w.setCell ⟨g, j, none⟩ u) (some g) :=
  ⟨rfl, rfl, rfl, by rw [World.size_setCell]; exact Nat.le_refl _, fun k hk hne => Below.heap_setCell w ⟨g, j, none⟩ u k (fun e => hne (by rw [e]))⟩
theorem other_row {row : Option Nat} (hg : W.grownBy w' row) {T : TypeId} (hrow : ∀ g, row = some g → ∃ cs fr, W.heap[g]? = some (.cells cs T fr)) {k : Nat} {cs : Array Value} {t : TypeId} {fr : Nat × Nat} (hk : W.heap[k]? = some (.cells cs t fr)) (ht : t ≠ T) : w'.heap[k]? = some (.cells cs t fr) := by
  refine (hg.block k (blk_lt' hk) (fun e => ?_)).trans hk
  obtain ⟨cs2, fr2, h⟩ := hrow k e.symm
  rw [hk] at h; cases h
  exact ht rfl
/-- a team in memory, its blocks named -/
structure TX (B : Nat) (W : World) (tb n : Nat) (p : Nat → Nat) (r : Nat → V) (sv : Nat → Sv) (way : List St.Fly) (gl cl : Nat) (csl : Array Value) (gs cs : Nat) (css : Array Value) (sw : Value) (rows : List (List Value)) : Prop where
  parts : Parts B W n p r
  base : B ≤ tb
  blk : W.heap[tb]? = some (.cells #[.slice (some ⟨gl, 0, none⟩) n cl, .slice (some ⟨gs, 0, none⟩) n cs, sw] 61 (0, 0))
  lbase : B ≤ gl
  lblk : W.heap[gl]? = some (.cells csl 28 (0, 0))
  lat : ∀ i, i < n → csl[i]? = some (.pointer (some ⟨p i, 0, none⟩))
  sbase : B ≤ gs
  sblk : W.heap[gs]? = some (.cells css 24 (0, 0))
  sat : ∀ i, i < n → SavedAt W css i (sv i)
  wrow : Kd.R (Kd.raw 10) 84 W B (fun _ => True) sw rows
  way : WayAt W rows way
theorem TM.tx (h : TM B W tb n p r sv way) : ∃ gl cl csl gs cs css sw rows, TX B W tb n p r sv way gl cl csl gs cs css sw rows := by
  obtain ⟨h1, h2, gl, cl, csl, gs, cs, css, sw, rows, k1, ⟨k2, k3, k4⟩, ⟨k5, k6, k7⟩, k8, k9⟩ := h
  exact ⟨gl, cl, csl, gs, cs, css, sw, rows, h1, h2, k1, k2, k3, k4, k5, k6, k7, k8, k9⟩
variable {gl cl : Nat} {csl : Array Value} {gs cs : Nat} {css : Array Value} {sw : Value} {rows : List (List Value)}
theorem TX.tm (h : TX B W tb n p r sv way gl cl csl gs cs css sw rows) : TM B W tb n p r sv way :=
  ⟨h.parts, h.base, gl, cl, csl, gs, cs, css, sw, rows, h.blk, ⟨h.lbase, h.lblk, h.lat⟩, ⟨h.sbase, h.sblk, h.sat⟩, h.wrow, h.way⟩
theorem TX.wtyped (h : TX B W tb n p r sv way gl cl csl gs cs css sw rows) : ∀ g, sw.ownBlock = some g → ∃ cells fr, W.heap[g]? = some (.cells cells 84 fr) := fun g hg => by
  obtain ⟨inner, ho⟩ := Kd.R_own h.wrow
  obtain ⟨cells, hc⟩ := own_typed ho g hg
  exact ⟨cells, _, hc⟩
theorem TX.below (h : TX B W tb n p r sv way gl cl csl gs cs css sw rows) (hb : Below W.heap.size W w') : TX B w' tb n p r sv way gl cl csl gs cs css sw rows :=
  ⟨h.parts.below hb, h.base, blk_below h.blk hb, h.lbase, blk_below h.lblk hb, h.lat, h.sbase, blk_below h.sblk hb, fun i hi => (h.sat i hi).keep (fun hr => hr.below hb), Kd.R_below h.wrow hb, h.way.keep (fun hr => hr.below hb)⟩
/-- the letters' row has grown, or is a new one; its slice is stored -/
theorem TX.newWay (h : TX B W tb n p r sv way gl cl csl gs cs css sw rows) {w1 : World} (hg : W.grownBy w1 sw.ownBlock) {v1 : Value} {rows1 : List (List Value)} (hr : Kd.R (Kd.raw 10) 84 w1 B (fun _ => True) v1 rows1) (hw : WayAt w1 rows1 way') : TM B (w1.setCell ⟨tb, 2, none⟩ v1) tb n p r sv way' ∧ Rows9 W (w1.setCell ⟨tb, 2, none⟩ v1) := by
  have ht := h.wtyped
  have hro : RowOk W sw.ownBlock := fun g hgg => by
    obtain ⟨cells, fr, hc⟩ := ht g hgg
    exact ⟨_, _, _, hc, by decide, by decide⟩
  have b1 := other_row hg ht h.blk (by decide)
  have b2 := other_row hg ht h.lblk (by decide)
  have b3 := other_row hg ht h.sblk (by decide)
  have hg2 := grown_set w1 tb 2 v1
  have hro2 : RowOk w1 (some tb) := fun g hgg => by cases hgg; exact ⟨_, _, _, b1, by decide, by decide⟩
  have ht2 : ∀ g, some tb = some g → ∃ cs fr, w1.heap[g]? = some (.cells cs 61 fr) := fun g hgg => by cases hgg; exact ⟨_, _, b1⟩
  have hr9 : Rows9 W (w1.setCell ⟨tb, 2, none⟩ v1) := (Rows9.grown hg hro).trans (Rows9.grown hg2 hro2)
  refine ⟨⟨(h.parts.grown hg hro).grown hg2 hro2, h.base, gl, cl, csl, gs, cs, css, v1, rows1, blk_put b1 2 v1 rfl, ⟨h.lbase, other_row hg2 ht2 b2 (by decide), h.lat⟩, ⟨h.sbase, other_row hg2 ht2 b3 (by decide), fun i hi => (h.sat i hi).keep (fun hr => hr.rows9 hr9)⟩, ?_, hw.keep (fun hr => hr.rows9 (Rows9.grown hg2 hro2))⟩, hr9⟩
  refine R_raw_keep hr fun k cells hk => ?_
  exact (other_row hg2 ht2 hk (by decide)).trans hk.symm
/-- a replica begun anew in another one's place -/
theorem TX.newRep (h : TX B W tb n p r sv way gl cl csl gs cs css sw rows) {i q : Nat} (hi : i < n) {w1 : World} {t : V} (hb : Below W.heap.size W w1) (ht : Pt W.heap.size w1 q t) : TM B (w1.setCell ⟨gl, i, none⟩ (.pointer (some ⟨q, 0, none⟩))) tb n (upd p i q) (upd r i t) sv way ∧ Rows9 W (w1.setCell ⟨gl, i, none⟩ (.pointer (some ⟨q, 0, none⟩))) := by
  have hz := parts_size h.parts hi
  have hp := parts_put h.parts hi hz hb ht
  have h1 := h.below hb
  have hg2 := grown_set w1 gl i (.pointer (some ⟨q, 0, none⟩))
  have hro2 : RowOk w1 (some gl) := fun g hgg => by cases hgg; exact ⟨_, _, _, h1.lblk, by decide, by decide⟩
  have ht2 : ∀ g, some gl = some g → ∃ cs fr, w1.heap[g]? = some (.cells cs 28 fr) := fun g hgg => by cases hgg; exact ⟨_, _, h1.lblk⟩
  have hr9 := Rows9.grown hg2 hro2
  have hsz : i < csl.size := by
    have := h.lat i hi
    exact (Array.getElem?_eq_some_iff.1 this).1
  refine ⟨⟨hp.grown hg2 hro2, h.base, gl, cl, csl.setIfInBounds i (.pointer (some ⟨q, 0, none⟩)), gs, cs, css, sw, rows, other_row hg2 ht2 h1.blk (by decide), ⟨h.lbase, blk_set h1.lblk i _, fun j hj => ?_⟩, ⟨h.sbase, other_row hg2 ht2 h1.sblk (by decide), fun i hi => (h1.sat i hi).keep (fun hr => hr.rows9 hr9)⟩, R_raw_keep h1.wrow fun k cells hk => (other_row hg2 ht2 hk (by decide)).trans hk.symm, h1.way.keep (fun hr => hr.rows9 hr9)⟩, (Rows9.below hb).trans hr9⟩
  by_cases e : j = i
  · subst e
    rw [upd_same, Array.getElem?_setIfInBounds, if_pos rfl, if_pos hsz]
  · rw [upd_other _ _ e, Array.getElem?_setIfInBounds, if_neg (Ne.symm e)]
    exact h.lat j hj
/-- what one saved -/
theorem TX.newSaved (h : TX B W tb n p r sv way gl cl csl gs cs css sw rows) {i : Nat} (hi : i < n) (s : Sv) (A : Option Addr) (c : Nat) (hr : Rd W (.slice A s.2.2.length c) s.2.2) :
    TM B (((W.setCell ⟨gs, i * 3, none⟩ (.int .i64 s.1)).setCell ⟨gs, i * 3 + 1, none⟩ (.int .i64 s.2.1)).setCell ⟨gs, i * 3 + 2, none⟩ (.slice A s.2.2.length c)) tb n p r (upd sv i s) way ∧ Rows9 W (((W.setCell ⟨gs, i * 3, none⟩ (.int .i64 s.1)).setCell ⟨gs, i * 3 + 1, none⟩ (.int .i64 s.2.1)).setCell ⟨gs, i * 3 + 2, none⟩ (.slice A s.2.2.length c)) := by
  have b1 := blk_set h.sblk (i * 3) (.int .i64 s.1)
  have b2 := blk_set b1 (i * 3 + 1) (.int .i64 s.2.1)
  have b3 := blk_set b2 (i * 3 + 2) (.slice A s.2.2.length c)
  have hg1 := grown_set W gs (i * 3) (.int .i64 s.1)
  have hg2 := grown_set (W.setCell ⟨gs, i * 3, none⟩ (.int .i64 s.1)) gs (i * 3 + 1) (.int .i64 s.2.1)
  have hg3 := grown_set ((W.setCell ⟨gs, i * 3, none⟩ (.int .i64 s.1)).setCell ⟨gs, i * 3 + 1, none⟩ (.int .i64 s.2.1)) gs (i * 3 + 2) (.slice A s.2.2.length c)
  generalize hw3 : ((W.setCell ⟨gs, i * 3, none⟩ (.int .i64 s.1)).setCell ⟨gs, i * 3 + 1, none⟩ (.int .i64 s.2.1)).setCell ⟨gs, i * 3 + 2, none⟩ (.slice A s.2.2.length c) = w3 at b3 hg3 ⊢
  have hg : W.grownBy w3 (some gs) := ⟨hg3.os.trans (hg2.os.trans hg1.os), hg3.tape.trans (hg2.tape.trans hg1.tape), hg3.output.trans (hg2.output.trans hg1.output), Nat.le_trans hg1.size (Nat.le_trans hg2.size hg3.size), fun k hk hne => (hg3.block k (Nat.lt_of_lt_of_le hk (Nat.le_trans hg1.size hg2.size)) hne).trans ((hg2.block k (Nat.lt_of_lt_of_le hk hg1.size) hne).trans (hg1.block k hk hne))⟩
  have hro : RowOk W (some gs) := fun g hgg => by cases hgg; exact ⟨_, _, _, h.sblk, by decide, by decide⟩
  have ht : ∀ g, some gs = some g → ∃ cs fr, W.heap[g]? = some (.cells cs 24 fr) := fun g hgg => by cases hgg; exact ⟨_, _, h.sblk⟩
  have hr9 := Rows9.grown hg hro
  obtain ⟨A0, c0, s0, s1, s2, _⟩ := h.sat i hi
  have z0 := (Array.getElem?_eq_some_iff.1 s0).1
  have z1 := (Array.getElem?_eq_some_iff.1 s1).1
  have z2 := (Array.getElem?_eq_some_iff.1 s2).1
  refine ⟨⟨h.parts.grown hg hro, h.base, gl, cl, csl, gs, cs, _, sw, rows, other_row hg ht h.blk (by decide), ⟨h.lbase, other_row hg ht h.lblk (by decide), h.lat⟩, ⟨h.sbase, b3, fun j hj => ?_⟩, R_raw_keep h.wrow fun k cells hk => (other_row hg ht hk (by decide)).trans hk.symm, h.way.keep (fun hr => hr.rows9 hr9)⟩, hr9⟩
  by_cases e : j = i
  · subst e
    rw [upd_same]
    refine ⟨A, c, ?_, ?_, ?_, hr.rows9 hr9⟩
    · simp [Array.getElem?_setIfInBounds, z0]
    · simp [Array.getElem?_setIfInBounds, z1]
    · simp [Array.getElem?_setIfInBounds, z2]
  · rw [upd_other _ _ e]
    obtain ⟨A1, c1, q0, q1, q2, q3⟩ := h.sat j hj
    refine ⟨A1, c1, ?_, ?_, ?_, q3.rows9 hr9⟩
    · simp only [Array.getElem?_setIfInBounds]
      rw [if_neg (by omega), if_neg (by omega), if_neg (by omega)]; exact q0
    · simp only [Array.getElem?_setIfInBounds]
      rw [if_neg (by omega), if_neg (by omega), if_neg (by omega)]; exact q1
    · simp only [Array.getElem?_setIfInBounds]
      rw [if_neg (by omega), if_neg (by omega), if_neg (by omega)]; exact q2
/-- while a replica's part is being saved -/
structure Fin31 (W0 : World) (B : Nat) (w : World) (tb n : Nat) (p : Nat → Nat) (r : Nat → V) (sv : Nat → Sv) (way : List St.Fly) (gl cl : Nat) (csl : Array Value) (gs cs : Nat) (sw : Value) (rows : List (List Value)) (i : Nat) (s : Sv) : Prop where
  below_ : Below B W0 w
  rows9 : Rows9 W0 w
  tx : ∃ sv' css', (∀ j, j ≠ i → sv' j = sv j) ∧ TX B w tb n p r sv' way gl cl csl gs cs css' sw rows
variable {W0 : World} {i : Nat} {s : Sv}
theorem Fin31.below (h : Fin31 W0 B W tb n p r sv way gl cl csl gs cs sw rows i s) (hi : i < n) (hb : Below W.heap.size W w') : Fin31 W0 B w' tb n p r sv way gl cl csl gs cs sw rows i s := by
  obtain ⟨h1, h2, sv', css', h3, h4⟩ := h
  exact ⟨h1.trans (hb.mono (parts_size h4.parts hi)), h2.trans (Rows9.below hb), sv', css', h3, h4.below hb⟩
theorem Fin31.at_ (h : Fin31 W0 B W tb n p r sv way gl cl csl gs cs sw rows i s) (hi : i < n) : ∃ v0 v1 v2, W.cell? ⟨gs, i * 3, none⟩ = some v0 ∧ W.cell? ⟨gs, i * 3 + 1, none⟩ = some v1 ∧ W.cell? ⟨gs, i * 3 + 2, none⟩ = some v2 ∧ W.frozen? ⟨gs, i * 3, none⟩ = false ∧ W.frozen? ⟨gs, i * 3 + 1, none⟩ = false ∧ W.frozen? ⟨gs, i * 3 + 2, none⟩ = false ∧ gs ≠ tb ∧ gs ≠ gl := by
  obtain ⟨h1, h2, sv', css', h3, h4⟩ := h
  obtain ⟨A, c, s0, s1, s2, _⟩ := h4.sat i hi
  exact ⟨_, _, _, (blk_cell h4.sblk _).trans s0, (blk_cell h4.sblk _).trans s1, (blk_cell h4.sblk _).trans s2, blk_frozen h4.sblk _, blk_frozen h4.sblk _, blk_frozen h4.sblk _, blk_ne h4.sblk h4.blk (by decide), blk_ne h4.sblk h4.lblk (by decide)⟩
theorem TX.saved (h : TX B W tb n p r sv way gl cl csl gs cs css sw rows) {i : Nat} (hi : i < n) (s : Sv) (A : Option Addr) (c : Nat) (hr : Rd W (.slice A s.2.2.length c) s.2.2) :
    ∃ css', TX B (((W.setCell ⟨gs, i * 3, none⟩ (.int .i64 s.1)).setCell ⟨gs, i * 3 + 1, none⟩ (.int .i64 s.2.1)).setCell ⟨gs, i * 3 + 2, none⟩ (.slice A s.2.2.length c)) tb n p r (upd sv i s) way gl cl csl gs cs css' sw rows ∧ Rows9 W (((W.setCell ⟨gs, i * 3, none⟩ (.int .i64 s.1)).setCell ⟨gs, i * 3 + 1, none⟩ (.int .i64 s.2.1)).setCell ⟨gs, i * 3 + 2, none⟩ (.slice A s.2.2.length c)) := by
  have b1 := blk_set h.sblk (i * 3) (.int .i64 s.1)
  have b2 := blk_set b1 (i * 3 + 1) (.int .i64 s.2.1)
  have b3 := blk_set b2 (i * 3 + 2) (.slice A s.2.2.length c)
  have hg1 := grown_set W gs (i * 3) (.int .i64 s.1)
  have hg2 := grown_set (W.setCell ⟨gs, i * 3, none⟩ (.int .i64 s.1)) gs (i * 3 + 1) (.int .i64 s.2.1)
  have hg3 := grown_set ((W.setCell ⟨gs, i * 3, none⟩ (.int .i64 s.1)).setCell ⟨gs, i * 3 + 1, none⟩ (.int .i64 s.2.1)) gs (i * 3 + 2) (.slice A s.2.2.length c)
  generalize hw3 : ((W.setCell ⟨gs, i * 3, none⟩ (.int .i64 s.1)).setCell ⟨gs, i * 3 + 1, none⟩ (.int .i64 s.2.1)).setCell ⟨gs, i * 3 + 2, none⟩ (.slice A s.2.2.length c) = w3 at b3 hg3 ⊢
  have hg : W.grownBy w3 (some gs) := ⟨hg3.os.trans (hg2.os.trans hg1.os), hg3.tape.trans (hg2.tape.trans hg1.tape), hg3.output.trans (hg2.output.trans hg1.output), Nat.le_trans hg1.size (Nat.le_trans hg2.size hg3.size), fun k hk hne => (hg3.block k (Nat.lt_of_lt_of_le hk (Nat.le_trans hg1.size hg2.size)) hne).trans ((hg2.block k (Nat.lt_of_lt_of_le hk hg1.size) hne).trans (hg1.block k hk hne))⟩
  have hro : RowOk W (some gs) := fun g hgg => by cases hgg; exact ⟨_, _, _, h.sblk, by decide, by decide⟩
  have ht : ∀ g, some gs = some g → ∃ cs fr, W.heap[g]? = some (.cells cs 24 fr) := fun g hgg => by cases hgg; exact ⟨_, _, h.sblk⟩
  have hr9 := Rows9.grown hg hro
  obtain ⟨A0, c0, s0, s1, s2, _⟩ := h.sat i hi
  have z0 := (Array.getElem?_eq_some_iff.1 s0).1
  have z1 := (Array.getElem?_eq_some_iff.1 s1).1
  have z2 := (Array.getElem?_eq_some_iff.1 s2).1
  refine ⟨_, ⟨h.parts.grown hg hro, h.base, other_row hg ht h.blk (by decide), h.lbase, other_row hg ht h.lblk (by decide), h.lat, h.sbase, b3, fun j hj => ?_, R_raw_keep h.wrow fun k cells hk => (other_row hg ht hk (by decide)).trans hk.symm, h.way.keep (fun hr => hr.rows9 hr9)⟩, hr9⟩
  by_cases e : j = i
  · subst e
    rw [upd_same]
    refine ⟨A, c, ?_, ?_, ?_, hr.rows9 hr9⟩
    · simp [Array.getElem?_setIfInBounds, z0]
    · simp [Array.getElem?_setIfInBounds, z1]
    · simp [Array.getElem?_setIfInBounds, z2]
  · rw [upd_other _ _ e]
    obtain ⟨A1, c1, q0, q1, q2, q3⟩ := h.sat j hj
    refine ⟨A1, c1, ?_, ?_, ?_, q3.rows9 hr9⟩
    · simp only [Array.getElem?_setIfInBounds]
      rw [if_neg (by omega), if_neg (by omega), if_neg (by omega)]; exact q0
    · simp only [Array.getElem?_setIfInBounds]
      rw [if_neg (by omega), if_neg (by omega), if_neg (by omega)]; exact q1
    · simp only [Array.getElem?_setIfInBounds]
      rw [if_neg (by omega), if_neg (by omega), if_neg (by omega)]; exact q2
theorem Fin31.store (h : Fin31 W0 B W tb n p r sv way gl cl csl gs cs sw rows i s) (hi : i < n) {A : Option Addr} {c : Nat} (hr : Rd W (.slice A s.2.2.length c) s.2.2) :
    Fin31 W0 B (((W.setCell ⟨gs, i * 3, none⟩ (.int .i64 s.1)).setCell ⟨gs, i * 3 + 1, none⟩ (.int .i64 s.2.1)).setCell ⟨gs, i * 3 + 2, none⟩ (.slice A s.2.2.length c)) tb n p r sv way gl cl csl gs cs sw rows i s ∧ TM B (((W.setCell ⟨gs, i * 3, none⟩ (.int .i64 s.1)).setCell ⟨gs, i * 3 + 1, none⟩ (.int .i64 s.2.1)).setCell ⟨gs, i * 3 + 2, none⟩ (.slice A s.2.2.length c)) tb n p r (upd sv i s) way := by
  obtain ⟨h1, h2, sv', css', h3, h4⟩ := h
  obtain ⟨css2, k1, k2⟩ := h4.saved hi s A c hr
  refine ⟨⟨below_put (below_put (below_put h1 ⟨gs, i * 3, none⟩ h4.sbase _) ⟨gs, i * 3 + 1, none⟩ h4.sbase _) ⟨gs, i * 3 + 2, none⟩ h4.sbase _, h2.trans k2, upd sv' i s, css2, fun j hj => by rw [upd_other _ _ hj]; exact h3 j hj, k1⟩, ?_⟩
  have e : upd sv' i s = upd sv i s := by
    funext j
    by_cases q : j = i
    · rw [q, upd_same, upd_same]
    · rw [upd_other _ _ q, upd_other _ _ q]; exact h3 j q
  rw [e] at k1
  exact k1.tm
/-- while a replica is being begun anew -/
structure Fin29 (W0 : World) (B : Nat) (w : World) (tb n : Nat) (p : Nat → Nat) (r : Nat → V) (sv : Nat → Sv) (way : List St.Fly) (gl cl : Nat) (gs cs : Nat) (css : Array Value) (sw : Value) (rows : List (List Value)) (i : Nat) : Prop where
  below_ : Below B W0 w
  rows9 : Rows9 W0 w
  tx : ∃ p' r' csl', (∀ j, j ≠ i → p' j = p j ∧ r' j = r j) ∧ TX B w tb n p' r' sv way gl cl csl' gs cs css sw rows
theorem Fin29.below (h : Fin29 W0 B W tb n p r sv way gl cl gs cs css sw rows i) (hi : i < n) (hb : Below W.heap.size W w') : Fin29 W0 B w' tb n p r sv way gl cl gs cs css sw rows i := by
  obtain ⟨h1, h2, p', r', csl', h3, h4⟩ := h
  exact ⟨h1.trans (hb.mono (parts_size h4.parts hi)), h2.trans (Rows9.below hb), p', r', csl', h3, h4.below hb⟩
theorem Fin29.at_ (h : Fin29 W0 B W tb n p r sv way gl cl gs cs css sw rows i) (hi : i < n) : ∃ v, W.cell? ⟨gl, i, none⟩ = some v ∧ W.frozen? ⟨gl, i, none⟩ = false ∧ gl ≠ tb ∧ gl ≠ gs := by
  obtain ⟨h1, h2, p', r', csl', h3, h4⟩ := h
  exact ⟨_, (blk_cell h4.lblk i).trans (h4.lat i hi), blk_frozen h4.lblk i, blk_ne h4.lblk h4.blk (by decide), blk_ne h4.lblk h4.sblk (by decide)⟩
theorem TX.rep (h : TX B W tb n p r sv way gl cl csl gs cs css sw rows) {i q : Nat} (hi : i < n) {w1 : World} {t : V} (hb : Below W.heap.size W w1) (ht : Pt W.heap.size w1 q t) : ∃ csl', TX B (w1.setCell ⟨gl, i, none⟩ (.pointer (some ⟨q, 0, none⟩))) tb n (upd p i q) (upd r i t) sv way gl cl csl' gs cs css sw rows ∧ Rows9 W (w1.setCell ⟨gl, i, none⟩ (.pointer (some ⟨q, 0, none⟩))) := by
  have hz := parts_size h.parts hi
  have hp := parts_put h.parts hi hz hb ht
  have h1 := h.below hb
  have hg2 := grown_set w1 gl i (.pointer (some ⟨q, 0, none⟩))
  have hro2 : RowOk w1 (some gl) := fun g hgg => by cases hgg; exact ⟨_, _, _, h1.lblk, by decide, by decide⟩
  have ht2 : ∀ g, some gl = some g → ∃ cs fr, w1.heap[g]? = some (.cells cs 28 fr) := fun g hgg => by cases hgg; exact ⟨_, _, h1.lblk⟩
  have hr9 := Rows9.grown hg2 hro2
  have hsz : i < csl.size := by
    have := h.lat i hi
    exact (Array.getElem?_eq_some_iff.1 this).1
  refine ⟨_, ⟨hp.grown hg2 hro2, h.base, other_row hg2 ht2 h1.blk (by decide), h.lbase, blk_set h1.lblk i _, fun j hj => ?_, h.sbase, other_row hg2 ht2 h1.sblk (by decide), fun i hi => (h1.sat i hi).keep (fun hr => hr.rows9 hr9), R_raw_keep h1.wrow fun k cells hk => (other_row hg2 ht2 hk (by decide)).trans hk.symm, h1.way.keep (fun hr => hr.rows9 hr9)⟩, (Rows9.below hb).trans hr9⟩
  by_cases e : j = i
  · subst e
    rw [upd_same, Array.getElem?_setIfInBounds, if_pos rfl, if_pos hsz]
  · rw [upd_other _ _ e, Array.getElem?_setIfInBounds, if_neg (Ne.symm e)]
    exact h.lat j hj
theorem upd_eq {α : Type} {f g : Nat → α} {i : Nat} (x : α) (h : ∀ j, j ≠ i → f j = g j) : upd f i x = upd g i x := by
  funext j
  by_cases q : j = i
  · rw [q, upd_same, upd_same]
  · rw [upd_other _ _ q, upd_other _ _ q]; exact h j q
theorem Fin29.store (h : Fin29 W0 B W tb n p r sv way gl cl gs cs css sw rows i) (hi : i < n) {q : Nat} {w1 : World} {t : V} (hb : Below W.heap.size W w1) (ht : Pt W.heap.size w1 q t) :
    Fin29 W0 B (w1.setCell ⟨gl, i, none⟩ (.pointer (some ⟨q, 0, none⟩))) tb n p r sv way gl cl gs cs css sw rows i ∧ TM B (w1.setCell ⟨gl, i, none⟩ (.pointer (some ⟨q, 0, none⟩))) tb n (upd p i q) (upd r i t) sv way := by
  obtain ⟨h1, h2, p', r', csl', h3, h4⟩ := h
  obtain ⟨csl2, k1, k2⟩ := h4.rep hi hb ht
  refine ⟨⟨below_put (h1.trans (hb.mono (parts_size h4.parts hi))) ⟨gl, i, none⟩ h4.lbase _, h2.trans k2, _, _, csl2, fun j hj => ⟨by rw [upd_other _ _ hj]; exact (h3 j hj).1, by rw [upd_other _ _ hj]; exact (h3 j hj).2⟩, k1⟩, ?_⟩
  have k := k1.tm
  rw [upd_eq q (fun j hj => (h3 j hj).1), upd_eq t (fun j hj => (h3 j hj).2)] at k
  exact k
end
end Go.Proofs.Ytndnjmgmdkkifaa.Vw1
