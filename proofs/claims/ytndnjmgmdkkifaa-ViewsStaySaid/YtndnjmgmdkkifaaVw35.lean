/- A letter that comes: the row of letters, cut. -/
import Derived.Test.YtndnjmgmdkkifaaVw34
namespace Go.Proofs.Ytndnjmgmdkkifaa.Vw1
open Go Go.RowKit Go.Maps Go.Proofs Go.Proofs.Ytndnjmgmdkkifaa.New Go.Proofs.Ytndnjmgmdkkifaa.Vw Go.Proofs.Ytndnjmgmdkkifaa.Vw0 Go.Proofs.Ytndnjmgmdkkifaa.Q Go.Proofs.YtndnjmgmdkkifaaW.PrintWords Go.Proofs.YtndnjmgmdkkifaaW.PrintLast Go.Proofs.YtndnjmgmdkkifaaW.PrintMore
set_option linter.unusedVariables false
set_option linter.unusedSimpArgs false

theorem add_at (g o j : Nat) : (⟨g, o, none⟩ : Addr).add j = ⟨g, o + j, none⟩ := by unfold Addr.add; split <;> simp_all
theorem way_cells {W : World} {gw : Nat} {n : Nat} {rows : List (List Value)} (h : Kd.C (Kd.raw 10) W (some ⟨gw, 0, none⟩) n rows) {k : Nat} {v0 v1 v2 v3 v4 v5 v6 v7 v8 v9 : Value} (hk : rows[k]? = some [v0, v1, v2, v3, v4, v5, v6, v7, v8, v9]) :
    W.cell? ⟨gw, k * 10, none⟩ = some v0 ∧ W.cell? ⟨gw, k * 10 + 1, none⟩ = some v1 ∧ W.cell? ⟨gw, k * 10 + 2, none⟩ = some v2 ∧ W.cell? ⟨gw, k * 10 + 3, none⟩ = some v3 ∧ W.cell? ⟨gw, k * 10 + 4, none⟩ = some v4 ∧ W.cell? ⟨gw, k * 10 + 5, none⟩ = some v5 ∧ W.cell? ⟨gw, k * 10 + 6, none⟩ = some v6 ∧ W.cell? ⟨gw, k * 10 + 7, none⟩ = some v7 ∧ W.cell? ⟨gw, k * 10 + 8, none⟩ = some v8 ∧ W.cell? ⟨gw, k * 10 + 9, none⟩ = some v9 := by
  have hl := (List.getElem?_eq_some_iff.1 hk).1
  obtain ⟨ad, e, hc⟩ := h.2.2 (by have := h.1; omega)
  cases e
  obtain ⟨c, h1, ⟨rfl, _, _⟩, h3⟩ := hc k _ hk
  have key : ∀ j u, [v0, v1, v2, v3, v4, v5, v6, v7, v8, v9][j]? = some u → W.cell? ⟨gw, k * 10 + j, none⟩ = some u := fun j u hj => by
    have := h3 j u hj
    rw [add_at, Nat.zero_add] at this
    exact this
  exact ⟨key 0 _ rfl, key 1 _ rfl, key 2 _ rfl, key 3 _ rfl, key 4 _ rfl, key 5 _ rfl, key 6 _ rfl, key 7 _ rfl, key 8 _ rfl, key 9 _ rfl⟩
theorem empty_row (wc : World) (e : TypeId) : Kd.R (Kd.raw 10) e (wc.alloc (.cells #[] e)) wc.heap.size (fun _ => True) (.slice (some ⟨wc.heap.size, 0, none⟩) 0 0) [] :=
  ⟨fun _ _ => trivial, [], World.ownsRow_made wc #[] 0 (Nat.le_refl _) (by decide) rfl, ⟨rfl, fun j p hj => by cases hj⟩⟩
theorem empty_row' (wc : World) (e : TypeId) : Kd.R (Kd.raw 10) e (wc.alloc (.cells #[] e)).drew wc.heap.size (fun _ => True) (.slice (some ⟨wc.heap.size, 0, none⟩) 0 0) [] := Kd.R_below (empty_row wc e) (below_drew (Below.refl _ _))
theorem app_cut {o : Oper} {ops : Array Oper} {a : Act} {wc W : World} {Kc : Act → World → Prop} {Q : Exit → Act → World → Prop} (hw : Region.wanted o (yielded ops a.tmps) = true) (s x : Operand)
    (ho : o.op = .call { callee := .builtin .append, args := #[s, x], argTypes := #[59, 59] }) {A1 A : Option Addr} {N1 c1 m c : Nat} {xs ys : List (List Value)}
    (hs : a.eval s = .slice A1 N1 c1) (hx : a.eval x = .slice A m c) (hR : Kd.R (Kd.raw 10) 84 W wc.heap.size (fun _ => True) (.slice A1 N1 c1) xs) (hC : Kd.C (Kd.raw 10) wc A m ys) (hb : Below wc.heap.size wc W) (hl : xs.length + m ≤ 1000)
    (h : ∀ A2 N2 c2 w1, Kd.R (Kd.raw 10) 84 w1 wc.heap.size (fun _ => True) (.slice A2 N2 c2) (xs ++ ys) → Below wc.heap.size wc w1 → Kc (a.put o.dst (.slice A2 N2 c2)) w1) :
    if Region.wanted o (yielded ops a.tmps) = true then Oper.wp Try.prog o a W Kc Q else Kc (a.put o.dst undef) W := by
  refine Kd.R_append_rows_step (Kd.raw 10) (Rr := (Kd.raw 10).K W) (w0 := wc) (W := W) wc.heap.size hw s x _ _ _ 104 ho Try.underlying59 infoFly rfl (by decide) (by decide) (.slice A1 N1 c1) xs ys A m c (fun _ => True) (fun _ => False) hs hx hR (Kd.C_below hC hb) (fun _ _ h => h) (fun _ hk => hk.elim) (fun _ _ => trivial) hb hb.size (by omega) ?_
  intro v1 w1 h1 h2 h3 _
  obtain ⟨A, c, rfl, _⟩ := Kd.R_reads h1
  exact h _ _ _ w1 h1 h2
theorem way_cut {w : World} {rows : List (List Value)} {way : List St.Fly} (h : WayAt w rows way) (k : Nat) : WayAt w (rows.eraseIdx k) (way.eraseIdx k) := by
  have hl := h.1
  refine ⟨by rw [List.length_eraseIdx, List.length_eraseIdx, hl], fun j f hj => ?_⟩
  rw [List.getElem?_eraseIdx] at hj ⊢
  split at hj
  · next hlt => rw [if_pos hlt]; exact h.2 j f hj
  · next hge => rw [if_neg hge]; exact h.2 (j + 1) f hj
section
variable {B : Nat} {W w1 : World} {tb n : Nat} {p : Nat → Nat} {r : Nat → V} {sv : Nat → Sv} {way : List St.Fly} {gl cl : Nat} {csl : Array Value} {gs cs : Nat} {css : Array Value} {sw v1 : Value} {rows : List (List Value)}
theorem TX.cut_end (h : TX B W tb n p r sv way gl cl csl gs cs css sw rows) (hi : B ≤ W.heap.size) (hb : Below W.heap.size W w1) (k : Nat) (hr : Kd.R (Kd.raw 10) 84 w1 W.heap.size (fun _ => True) v1 (rows.take k ++ rows.drop (k + 1))) :
    TM B (w1.setCell ⟨tb, 2, none⟩ v1) tb n p r sv (way.eraseIdx k) ∧ Rows9 W (w1.setCell ⟨tb, 2, none⟩ v1) ∧ Below B W (w1.setCell ⟨tb, 2, none⟩ v1) := by
  have hg : W.grownBy w1 sw.ownBlock := ⟨hb.os, hb.tape, hb.output, hb.size, fun k hk _ => hb.block k hk⟩
  have hr2 := Kd.R_lower hr hi
  rw [← List.eraseIdx_eq_take_drop_succ] at hr2
  obtain ⟨h1, h2⟩ := h.newWay hg hr2 (way_cut (h.way.keep (fun hr => hr.below hb)) k)
  exact ⟨h1, h2, below_put (hb.mono hi) _ h.base _⟩
theorem TX.cut_box (h : TX B W tb n p r sv way gl cl csl gs cs css sw rows) (hb : Below W.heap.size W w1) {g : Nat} {xs : Array Value} {t : TypeId} (hx : W.heap[g]? = some (.cells xs t (0, 0))) (ht2 : t ≠ 61) : (w1.setCell ⟨tb, 2, none⟩ v1).heap[g]? = some (.cells xs t (0, 0)) :=
  (Below.heap_setCell w1 ⟨tb, 2, none⟩ v1 g (blk_ne hx h.blk ht2)).trans (blk_below hx hb)
end
end Go.Proofs.Ytndnjmgmdkkifaa.Vw1
