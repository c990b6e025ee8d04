/- Views in memory: the walk of Saved. -/
import Derived.Test.YtndnjmgmdkkifaaVw8
namespace Go.Proofs.Ytndnjmgmdkkifaa.Vw1
open Go Go.RowKit Go.Maps Go.Proofs Go.Proofs.Ytndnjmgmdkkifaa.New Go.Proofs.Ytndnjmgmdkkifaa.Vw Go.Proofs.Ytndnjmgmdkkifaa.Vw0 Go.Proofs.YtndnjmgmdkkifaaW.PrintWords Go.Proofs.YtndnjmgmdkkifaaW.PrintLast Go.Proofs.YtndnjmgmdkkifaaW.PrintMore
set_option linter.unusedVariables false
set_option linter.unusedSimpArgs false

theorem cells3 {w : World} {g t : Nat} {v0 v1 v2 : Value} (h : w.heap[g]? = some (.cells #[v0, v1, v2] t (0, 0))) : w.cell? ⟨g, 0, none⟩ = some v0 ∧ w.cell? ⟨g, 1, none⟩ = some v1 ∧ w.cell? ⟨g, 2, none⟩ = some v2 := ⟨(blk_cell h 0).trans rfl, (blk_cell h 1).trans rfl, (blk_cell h 2).trans rfl⟩
set_option maxHeartbeats 4000000 in
set_option maxRecDepth 100000 in
theorem Saved_calls {W : World} {p am cm : Nat} {s : V} (h : VRep W p am cm s) (o : OkV s) :
    Calls Try.prog 21 #[.pointer (some ⟨p, 0, none⟩)] W fun e w' => ∃ A c, e = .returned (.agg #[.int .i64 s.view, .int .i64 s.normal, .slice A s.log.length c]) ∧ Rd w' (.slice A s.log.length c) s.log ∧ Below W.heap.size W w' := by
  have hll := rightL_len o.log
  obtain ⟨A, c, hb, hrd⟩ := h.blk
  obtain ⟨h0, h1, h2, h3, h4, h5, h6, h7⟩ := cells8 hb
  obtain ⟨_, _, eA, hcl0, hC0, _⟩ := hrd
  cases eA
  have HCL := Lib.hid (fun w (hw : Below W.heap.size W w) => clone_calls A c s.log w (Kd.C_below hC0 hw) (by omega))
  have hpl := h.lt.1
  have a0 := fun (o : Obj) => (pw_cell_below (below_alloc (Below.refl W.heap.size W) o) h0)
  have a1 := fun (o : Obj) => (pw_cell_below (below_alloc (Below.refl W.heap.size W) o) h1)
  have a2 := fun (o : Obj) => (pw_cell_below (below_alloc (Below.refl W.heap.size W) o) h2)
  clear h o hb hC0 h3 h4 h5 h6 h7
  go_enter Try.func21, Try.ntmps21
  go_wp2_with (go_at_call 35; refine (HCL.out _ ?_).mono ?_; exact (below_alloc (below_alloc (Below.refl _ _) _) _); rintro e w9 ⟨v9, rfl, hR9, hb9⟩; have HR9 := Lib.hid (rd_of_R hR9); obtain ⟨A5, c5, rfl, _, _⟩ := Kd.R_reads hR9; have HB9 := Lib.hid (below_step (below_alloc (below_alloc (Below.refl _ _) _) _) hb9); have b0 := blk_below (blk_alloc (blk_new W (Obj.cells #[Value.int IntKind.i64 0, Value.int IntKind.i64 0, Value.slice none 0 0] 24)) _) hb9; have b1 := blk_below (blk_new (W.alloc (Obj.cells #[Value.int IntKind.i64 0, Value.int IntKind.i64 0, Value.slice none 0 0] 24)) _) hb9; rw [show (W.alloc (Obj.cells #[Value.int IntKind.i64 0, Value.int IntKind.i64 0, Value.slice none 0 0] 24)).heap.size = W.heap.size + 1 from World.size_alloc _ _] at b1; have HQ0 := Lib.hid b0; have HQ1 := Lib.hid b1; have x0 := (cells3 b0).1; have x1 := (cells3 b0).2.1; have x2 := (cells3 b0).2.2; have y0 := (cells3 b1).1; have y1 := (cells3 b1).2.1; have y2 := (cells3 b1).2.2; have xf0 := blk_frozen b0 0; have xf1 := blk_frozen b0 1; have xf2 := blk_frozen b0 2; have yf := blk_frozen b1 2; clear hR9 hb9 b0 b1)
  have l1 := HR9.out.set HQ1.out (by decide) 2 (.slice A5 s.log.length c5)
  have e0 := blk_far HQ0.out (p := ⟨W.heap.size + 1, 2, none⟩) (by show W.heap.size ≠ W.heap.size + 1; omega) (.slice A5 s.log.length c5)
  have l2 := l1.set e0 (by decide) 0 (.int .i64 s.view)
  have e1 := blk_put e0 0 (.int .i64 s.view) rfl
  have l3 := l2.set e1 (by decide) 1 (.int .i64 s.normal)
  have e2 := blk_put e1 1 (.int .i64 s.normal) rfl
  have l4 := l3.set e2 (by decide) 2 (.slice A5 s.log.length c5)
  have e3 := blk_put e2 2 (.slice A5 s.log.length c5) rfl
  have hb := below_put (below_put (below_put (below_put HB9.out ⟨W.heap.size + 1, 2, none⟩ (Nat.le_succ _) (.slice A5 s.log.length c5)) ⟨W.heap.size, 0, none⟩ (Nat.le_refl _) (.int .i64 s.view)) ⟨W.heap.size, 1, none⟩ (Nat.le_refl _) (.int .i64 s.normal)) ⟨W.heap.size, 2, none⟩ (Nat.le_refl _) (.slice A5 s.log.length c5)
  clear x0 x1 x2 y0 y1 y2 xf0 xf1 xf2 yf l1 l2 l3 e0 e1 e2
  generalize (((w9.setCell ⟨W.heap.size + 1, 2, none⟩ (.slice A5 s.log.length c5)).setCell ⟨W.heap.size, 0, none⟩ (.int .i64 s.view)).setCell ⟨W.heap.size, 1, none⟩ (.int .i64 s.normal)).setCell ⟨W.heap.size, 2, none⟩ (.slice A5 s.log.length c5) = w5 at l4 e3 hb ⊢
  obtain ⟨k0, k1, k2⟩ := cells3 e3
  refine bodyPost_ret (v := .agg #[.int .i64 s.view, .int .i64 s.normal, .slice A5 s.log.length c5]) ?_ rfl ⟨A5, c5, rfl, l4, hb⟩
  simp [results, show (Try.f21).results = #[ResultVar.cell 2 24] from rfl, go_sem, k0, k1, k2]
end Go.Proofs.Ytndnjmgmdkkifaa.Vw1
