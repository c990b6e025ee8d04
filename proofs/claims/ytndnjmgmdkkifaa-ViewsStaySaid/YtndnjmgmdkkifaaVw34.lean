/- A letter more on its way. -/
import Derived.Test.YtndnjmgmdkkifaaVw33
namespace Go.Proofs.Ytndnjmgmdkkifaa.Vw1
open Go Go.RowKit Go.Maps Go.Proofs Go.Proofs.Ytndnjmgmdkkifaa.New Go.Proofs.Ytndnjmgmdkkifaa.Vw Go.Proofs.Ytndnjmgmdkkifaa.Vw0 Go.Proofs.Ytndnjmgmdkkifaa.Q Go.Proofs.YtndnjmgmdkkifaaW.PrintWords Go.Proofs.YtndnjmgmdkkifaaW.PrintLast Go.Proofs.YtndnjmgmdkkifaaW.PrintMore
set_option linter.unusedVariables false
set_option linter.unusedSimpArgs false

theorem infoFly : (Try.prog.info? 84).map (fun i => (i.zero, i.size, i.bytes)) = some (some (.agg #[.int .i64 0, .int .i64 0, .int .i64 0, .int .i64 0, .int .i64 0, .int .i64 0, .int .i64 0, .slice none 0 0, .int .i64 0, .string ⟨#[]⟩]), 10, 104) := by kernel_rfl
theorem app_fly {o : Oper} {ops : Array Oper} {a : Act} {wc : World} {Kc : Act → World → Prop} {Q : Exit → Act → World → Prop} (hw : Region.wanted o (yielded ops a.tmps) = true) (s x : Operand)
    (ho : o.op = .call { callee := .builtin .append, args := #[s, x], argTypes := #[59, 59] }) {B : Nat} {sw : Value} {rows : List (List Value)} {cs : List Value}
    (hs : a.eval s = sw) (hx : a.eval x = .slice (some ⟨wc.heap.size, 0, none⟩) 1 1) (hR : Kd.R (Kd.raw 10) 84 wc B (fun _ => True) sw rows) (hB : B ≤ wc.heap.size) (hcs : cs.length = 10 ∧ ∀ u ∈ cs, u.oneCell' = true) (hl : rows.length ≤ 1000)
    (h : ∀ A N c w1, Kd.R (Kd.raw 10) 84 w1 B (fun _ => True) (.slice A N c) (rows ++ [cs]) → Below B wc w1 → wc.grownBy w1 sw.ownBlock → Kc (a.put o.dst (.slice A N c)) w1) :
    if Region.wanted o (yielded ops a.tmps) = true then Oper.wp Try.prog o a ((wc.alloc (.cells cs.toArray 84)).drew) Kc Q else Kc (a.put o.dst undef) ((wc.alloc (.cells cs.toArray 84)).drew) := by
  have hd : (wc.alloc (.cells cs.toArray 84)).drew = wc.drew.alloc (.cells cs.toArray 84) := rfl
  rw [hd]
  refine Kd.R_append_step (Kd.raw 10) (w0 := wc) (W := wc.drew) B hw s x _ _ _ 104 ho Try.underlying59 infoFly rfl (by decide) (by decide) sw rows cs cs (fun _ => True) (fun _ => False) hs hx ⟨rfl, hcs⟩ (fun _ hk => hk.elim) (fun _ _ => trivial) (Kd.R_below hR (below_drew (Below.refl _ _))) (below_drew (Below.refl _ _)) hB (by omega) ?_
  intro v1 w1 h1 h2 h3 _
  obtain ⟨A, c, rfl, _⟩ := Kd.R_reads h1
  exact h _ _ _ w1 h1 h2 ⟨h3.os, h3.tape, h3.output, h3.size, fun k hk hne => h3.block k hk hne⟩
section
variable {B : Nat} {W w1 : World} {tb n : Nat} {p : Nat → Nat} {r : Nat → V} {sv : Nat → Sv} {way : List St.Fly} {gl cl : Nat} {csl : Array Value} {gs cs : Nat} {css : Array Value} {sw v1 : Value} {rows : List (List Value)}
theorem TX.fly_facts (h : TX B W tb n p r sv way gl cl csl gs cs css sw rows) (hg : W.grownBy w1 sw.ownBlock) : w1.cell? ⟨tb, 2, none⟩ = some sw ∧ w1.frozen? ⟨tb, 2, none⟩ = false := by
  have hb := other_row hg h.wtyped h.blk (by decide)
  exact ⟨(blk_cell hb 2).trans rfl, blk_frozen hb 2⟩
theorem TX.fly_rows (h : TX B W tb n p r sv way gl cl csl gs cs css sw rows) (hg : W.grownBy w1 sw.ownBlock) {g : Nat} {xs : Array Value} {t : TypeId} (hx : W.heap[g]? = some (.cells xs t (0, 0))) (ht : t ≠ 84) : w1.heap[g]? = some (.cells xs t (0, 0)) := other_row hg h.wtyped hx ht
theorem flyCells_ok (f : St.Fly) (A : Option Addr) (c : Nat) : (flyCells f A c).length = 10 ∧ ∀ u ∈ flyCells f A c, u.oneCell' = true := ⟨rfl, by simp [flyCells, Value.oneCell']⟩
theorem way_snoc {w : World} (h : WayAt w rows way) (f : St.Fly) (A : Option Addr) (c : Nat) (hrd : Rd w (.slice A f.l.log.length c) f.l.log) (hl : f.l.log.length ≤ 1000000 ∧ ∀ z ∈ f.l.log, z.size ≤ 140737488355328) : WayAt w (rows ++ [flyCells f A c]) (way ++ [f]) := by
  refine ⟨by simp [h.1], fun k g hk => ?_⟩
  rw [List.getElem?_append] at hk
  split at hk
  · next hlt =>
    obtain ⟨A2, c2, h1, h2⟩ := h.2 k g hk
    exact ⟨A2, c2, by rw [List.getElem?_append_left (by rw [h.1]; exact hlt)]; exact h1, h2⟩
  · next hge =>
    have : k = way.length := by
      have := (List.getElem?_eq_some_iff.1 hk).1
      simp at this; omega
    subst this
    simp at hk
    subst hk
    exact ⟨A, c, by rw [List.getElem?_append_right (by rw [h.1]; exact Nat.le_refl _), h.1, Nat.sub_self]; rfl, hrd, hl.1, hl.2⟩
theorem TX.fly_end (h : TX B W tb n p r sv way gl cl csl gs cs css sw rows) (hg : W.grownBy w1 sw.ownBlock) (hb : Below B W w1) (f : St.Fly) (A : Option Addr) (c : Nat) (hr : Kd.R (Kd.raw 10) 84 w1 B (fun _ => True) v1 (rows ++ [flyCells f A c])) (hrd : Rd W (.slice A f.l.log.length c) f.l.log) (hl : f.l.log.length ≤ 1000000 ∧ ∀ z ∈ f.l.log, z.size ≤ 140737488355328) :
    TM B (w1.setCell ⟨tb, 2, none⟩ v1) tb n p r sv (way ++ [f]) ∧ Rows9 W (w1.setCell ⟨tb, 2, none⟩ v1) ∧ Below B W (w1.setCell ⟨tb, 2, none⟩ v1) := by
  have hro : RowOk W sw.ownBlock := fun g hgg => by
    obtain ⟨cells, fr, hc⟩ := h.wtyped g hgg
    exact ⟨_, _, _, hc, by decide, by decide⟩
  obtain ⟨h1, h2⟩ := h.newWay hg hr (way_snoc (h.way.keep (fun hr => hr.rows9 (Rows9.grown hg hro))) f A c (hrd.rows9 (Rows9.grown hg hro)) hl)
  exact ⟨h1, h2, below_put hb _ h.base _⟩
theorem TX.fly_box (h : TX B W tb n p r sv way gl cl csl gs cs css sw rows) (hg : W.grownBy w1 sw.ownBlock) {g3 : Nat} {xs : Array Value} {t : TypeId} (hx : W.heap[g3]? = some (.cells xs t (0, 0))) (ht : t ≠ 84) (ht2 : t ≠ 61) : (w1.setCell ⟨tb, 2, none⟩ v1).heap[g3]? = some (.cells xs t (0, 0)) := by
  have hb := other_row hg h.wtyped h.blk (by decide)
  exact (Below.heap_setCell w1 ⟨tb, 2, none⟩ v1 g3 (blk_ne (other_row hg h.wtyped hx ht) hb ht2)).trans (other_row hg h.wtyped hx ht)
end
section
variable {w w1 : World} {g3 gL tb : Nat} {u0 u1 u2 u3 u4 u5 v0 v1 v2 v3 v4 v5 v6 v7 : Value} {t3 tL : TypeId}
theorem fly_S (h3 : w.heap[g3]? = some (.cells #[u0, u1, u2, u3, u4, u5] t3 (0, 0))) (hL : w.heap[gL]? = some (.cells #[v0, v1, v2, v3, v4, v5, v6, v7] tL (0, 0))) :
    w.cell? ⟨g3, 2, none⟩ = some u2 ∧ w.cell? ⟨gL, 0, none⟩ = some v0 ∧ w.cell? ⟨gL, 1, none⟩ = some v1 ∧ w.cell? ⟨gL, 2, none⟩ = some v2 ∧ w.cell? ⟨gL, 3, none⟩ = some v3 ∧ w.cell? ⟨gL, 4, none⟩ = some v4 ∧ w.cell? ⟨gL, 5, none⟩ = some v5 ∧ w.cell? ⟨gL, 6, none⟩ = some v6 ∧ w.cell? ⟨gL, 7, none⟩ = some v7 :=
  ⟨(blk_cell h3 2).trans rfl, cells8 hL⟩
theorem fly_S_drew (h3 : w.heap[g3]? = some (.cells #[u0, u1, u2, u3, u4, u5] t3 (0, 0))) (hL : w.heap[gL]? = some (.cells #[v0, v1, v2, v3, v4, v5, v6, v7] tL (0, 0))) :
    w.drew.cell? ⟨g3, 2, none⟩ = some u2 ∧ w.drew.cell? ⟨gL, 0, none⟩ = some v0 ∧ w.drew.cell? ⟨gL, 1, none⟩ = some v1 ∧ w.drew.cell? ⟨gL, 2, none⟩ = some v2 ∧ w.drew.cell? ⟨gL, 3, none⟩ = some v3 ∧ w.drew.cell? ⟨gL, 4, none⟩ = some v4 ∧ w.drew.cell? ⟨gL, 5, none⟩ = some v5 ∧ w.drew.cell? ⟨gL, 6, none⟩ = some v6 ∧ w.drew.cell? ⟨gL, 7, none⟩ = some v7 :=
  fly_S (w := w.drew) (blk_below h3 (bk_drew w)) (blk_below hL (bk_drew w))
theorem fly_S_alloc {o : Obj} (h3 : w.heap[g3]? = some (.cells #[u0, u1, u2, u3, u4, u5] t3 (0, 0))) (hL : w.heap[gL]? = some (.cells #[v0, v1, v2, v3, v4, v5, v6, v7] tL (0, 0))) :
    (w.alloc o).drew.cell? ⟨g3, 2, none⟩ = some u2 ∧ (w.alloc o).drew.cell? ⟨gL, 0, none⟩ = some v0 ∧ (w.alloc o).drew.cell? ⟨gL, 1, none⟩ = some v1 ∧ (w.alloc o).drew.cell? ⟨gL, 2, none⟩ = some v2 ∧ (w.alloc o).drew.cell? ⟨gL, 3, none⟩ = some v3 ∧ (w.alloc o).drew.cell? ⟨gL, 4, none⟩ = some v4 ∧ (w.alloc o).drew.cell? ⟨gL, 5, none⟩ = some v5 ∧ (w.alloc o).drew.cell? ⟨gL, 6, none⟩ = some v6 ∧ (w.alloc o).drew.cell? ⟨gL, 7, none⟩ = some v7 :=
  fly_S (w := (w.alloc o).drew) (blk_below h3 (bk_alloc w o)) (blk_below hL (bk_alloc w o))
theorem fly_S_store {v : Value} {xs : Array Value} {tt : TypeId} (ht : w.heap[tb]? = some (.cells xs tt (0, 0))) (h3t : t3 ≠ tt) (hLt : tL ≠ tt) (h3 : w.heap[g3]? = some (.cells #[u0, u1, u2, u3, u4, u5] t3 (0, 0))) (hL : w.heap[gL]? = some (.cells #[v0, v1, v2, v3, v4, v5, v6, v7] tL (0, 0))) :
    (w.setCell ⟨tb, 2, none⟩ v).cell? ⟨g3, 2, none⟩ = some u2 ∧ (w.setCell ⟨tb, 2, none⟩ v).cell? ⟨gL, 0, none⟩ = some v0 ∧ (w.setCell ⟨tb, 2, none⟩ v).cell? ⟨gL, 1, none⟩ = some v1 ∧ (w.setCell ⟨tb, 2, none⟩ v).cell? ⟨gL, 2, none⟩ = some v2 ∧ (w.setCell ⟨tb, 2, none⟩ v).cell? ⟨gL, 3, none⟩ = some v3 ∧ (w.setCell ⟨tb, 2, none⟩ v).cell? ⟨gL, 4, none⟩ = some v4 ∧ (w.setCell ⟨tb, 2, none⟩ v).cell? ⟨gL, 5, none⟩ = some v5 ∧ (w.setCell ⟨tb, 2, none⟩ v).cell? ⟨gL, 6, none⟩ = some v6 ∧ (w.setCell ⟨tb, 2, none⟩ v).cell? ⟨gL, 7, none⟩ = some v7 :=
  fly_S ((Below.heap_setCell w ⟨tb, 2, none⟩ v g3 (blk_ne h3 ht h3t)).trans h3) ((Below.heap_setCell w ⟨tb, 2, none⟩ v gL (blk_ne hL ht hLt)).trans hL)
end
theorem send_len' (s : V) (k : Int) : (s.send k).1.log.length ≤ s.log.length ∧ ∀ z ∈ (s.send k).1.log, z ∈ s.log := by
  have h : (s.send k).1.log = s.log ∨ (s.send k).1.log = [] := by
    unfold V.send
    split
    · exact .inr rfl
    · split
      · exact .inl rfl
      · split
        · exact .inr rfl
        · split
          · exact .inr rfl
          · exact .inl rfl
  rcases h with h | h
  · rw [h]; exact ⟨Nat.le_refl _, fun z hz => hz⟩
  · rw [h]; exact ⟨Nat.zero_le _, fun z hz => by cases hz⟩
theorem send_fit {s : V} (o : OkV s) (k : Int) : (s.send k).1.log.length ≤ 1000000 ∧ ∀ z ∈ (s.send k).1.log, z.size ≤ 140737488355328 := by
  obtain ⟨h1, h2⟩ := send_len' s k
  have hl := rightL_len o.log
  refine ⟨by omega, fun z hz => ?_⟩
  have h3 := o.log
  unfold rightL at h3
  simp only [Bool.and_eq_true, List.all_eq_true, decide_eq_true_eq] at h3
  have := h3.1 z (h2 z hz)
  omega
theorem send_to {s : V} {k : Int} (h : (s.send k).2 = true) : 0 ≤ k := by
  unfold V.send at h
  split at h
  · cases h
  · next hh =>
    have := other_facts (s := s) (n := k)
    by_cases c : s.otherB k = true
    · exact (this c).1
    · simp_all
end Go.Proofs.Ytndnjmgmdkkifaa.Vw1
