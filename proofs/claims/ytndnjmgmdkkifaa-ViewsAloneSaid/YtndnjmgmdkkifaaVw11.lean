/- Views in memory: turn at a part whose maps are whatever they are; the walk of New. -/
import Derived.Test.YtndnjmgmdkkifaaVw10
namespace Go.Proofs.Ytndnjmgmdkkifaa.Vw1
open Go Go.RowKit Go.Maps Go.Proofs Go.Proofs.Ytndnjmgmdkkifaa.New Go.Proofs.Ytndnjmgmdkkifaa.Vw Go.Proofs.Ytndnjmgmdkkifaa.Vw0 Go.Proofs.YtndnjmgmdkkifaaW.PrintWords Go.Proofs.YtndnjmgmdkkifaaW.PrintLast Go.Proofs.YtndnjmgmdkkifaaW.PrintMore
set_option linter.unusedVariables false
set_option linter.unusedSimpArgs false

set_option maxRecDepth 100000 in
theorem turn0_calls {W : World} {p : Nat} {A : Option Addr} {c : Nat} {s : V} {ma mb : Option Nat} (hb : W.heap[p]? = some (.cells #[.int .i64 s.view, .int .i64 s.normal, .slice A s.log.length c, .int .i64 s.me, .int .i64 s.many, .int .i64 s.stays, .map ma, .map mb] 73 (0, 0)))
    (hrd : Rd W (.slice A s.log.length c) s.log) (view' : Int) :
    Calls Try.prog 36 #[.pointer (some ⟨p, 0, none⟩), .int .i64 view'] W fun e w' => e = .returned (.tuple #[]) ∧ ∃ am' cm', VRep w' p am' cm' (s.fresh view') ∧ Fr W w' p p p ∧ W.heap.size ≤ am' ∧ W.heap.size ≤ cm' := by
  have hlt := blk_lt' hb
  obtain ⟨h0, h1, h2, h3, h4, h5, h6, h7⟩ := cells8 hb
  have f0 := blk_frozen hb 0
  have f6 := blk_frozen hb 6
  have f7 := blk_frozen hb 7
  have HB := Lib.hid hb
  have HRD := Lib.hid hrd
  have hmm := @run_makeMap Try.prog
  clear hb hrd h1 h2 h3 h4 h5
  go_enter Try.func36, Try.ntmps36
  go_wp2_with fail
  go_end0
  have hsz : (((W.setCell ⟨p, 0, none⟩ (.int .i64 view')).setCell ⟨p, 6, none⟩ (.map (some W.heap.size))).setCell ⟨p, 7, none⟩ (.map (some (W.heap.size + 1)))).heap.size = W.heap.size := by
    rw [World.size_setCell, World.size_setCell, World.size_setCell]
  have hF := set_fr (set_fr (set_fr (Fr.refl W p p p) 0 (.int .i64 view')) 6 (.map (some W.heap.size))) 7 (.map (some (W.heap.size + 1)))
  have b1 := blk_put HB.out 0 (.int .i64 view') rfl
  have b2 := blk_put b1 6 (.map (some W.heap.size)) rfl
  have hBK : (((W.setCell ⟨p, 0, none⟩ (.int .i64 view')).setCell ⟨p, 6, none⟩ (.map (some W.heap.size))).setCell ⟨p, 7, none⟩ (.map (some (W.heap.size + 1)))).heap[p]? = some (.cells #[.int .i64 view', .int .i64 s.normal, .slice A s.log.length c, .int .i64 s.me, .int .i64 s.many, .int .i64 s.stays, .map (some W.heap.size), .map (some (W.heap.size + 1))] 73 (0, 0)) :=
    blk_put b2 7 _ rfl
  have hRD := ((HRD.out.set HB.out (by decide) 0 (.int .i64 view')).set b1 (by decide) 6 (.map (some W.heap.size))).set b2 (by decide) 7 (.map (some (W.heap.size + 1)))
  generalize (((W.setCell ⟨p, 0, none⟩ (.int .i64 view')).setCell ⟨p, 6, none⟩ (.map (some W.heap.size))).setCell ⟨p, 7, none⟩ (.map (some (W.heap.size + 1)))) = W3 at hsz hF hBK hRD ⊢
  have hs2 : (W3.alloc (.map #[] 0)).heap.size = W.heap.size + 1 := by show (W3.heap.push _).size = _; simp [hsz]
  refine ⟨rfl, W.heap.size, W.heap.size + 1, ⟨⟨A, c, blk_alloc (blk_alloc hBK _) _, (hRD.below (below_alloc (Below.refl _ _) _)).below (below_alloc (Below.refl _ _) _)⟩, ⟨0, .map [], ?_, by omega⟩, ⟨0, .map [], ?_, by omega⟩, by omega⟩, alloc_fr (alloc_fr hF _) _, Nat.le_refl _, by omega⟩
  · have := oa_nil W3 s.many
    rw [hsz] at this
    exact ⟨own_block this.own (below_alloc (Below.refl _ _) _ |>.block _ (by rw [hs2]; omega)), this.at_, this.has, this.sz⟩
  · have := oc_nil (W3.alloc (.map #[] 0)) s.many
    rw [hs2] at this
    exact this
end Go.Proofs.Ytndnjmgmdkkifaa.Vw1
