/- Views in memory: the walk of New, along the way on which a part is made. -/
import Derived.Test.YtndnjmgmdkkifaaVw8
/- Views in memory: the walk of Saved. -/
namespace Go.Proofs.Ytndnjmgmdkkifaa.Vw1
open Go Go.RowKit Go.Maps Go.Proofs Go.Proofs.Ytndnjmgmdkkifaa.New Go.Proofs.Ytndnjmgmdkkifaa.Vw Go.Proofs.Ytndnjmgmdkkifaa.Vw0 Go.Proofs.YtndnjmgmdkkifaaW.PrintWords Go.Proofs.YtndnjmgmdkkifaaW.PrintLast Go.Proofs.YtndnjmgmdkkifaaW.PrintMore
set_option linter.unusedVariables false
set_option linter.unusedSimpArgs false

theorem cells3 {w : World} {g t : Nat} {v0 v1 v2 : Value} (h : w.heap[g]? = some (.cells #[v0, v1, v2] t (0, 0))) : w.cell? ⟨g, 0, none⟩ = some v0 ∧ w.cell? ⟨g, 1, none⟩ = some v1 ∧ w.cell? ⟨g, 2, none⟩ = some v2 := ⟨(blk_cell h 0).trans rfl, (blk_cell h 1).trans rfl, (blk_cell h 2).trans rfl⟩
set_option maxHeartbeats 4000000 in
set_option maxRecDepth 100000 in
theorem Saved_calls {W : World} {p am cm : Nat} {s : V} (h : VRep W p am cm s) (o : OkV s) :
    Calls Try.prog 21 #[.pointer (some ⟨p, 0, none⟩)] W fun e w' => ∃ A c, e = .returned (.agg #[.int .i64 s.view, .int .i64 s.normal, .slice A s.log.length c]) ∧ Rd w' (.slice A s.log.length c) s.log ∧ Below W.heap.size W w' := by
  have hll := rightL_len o.log
  obtain ⟨A, c, hb, hrd⟩ := h.blk
  obtain ⟨h0, h1, h2, h3, h4, h5, h6, h7⟩ := cells8 hb
  obtain ⟨_, _, eA, hcl0, hC0, _⟩ := hrd
  cases eA
  have HCL := Lib.hid (fun w (hw : Below W.heap.size W w) => clone_calls A c s.log w (Kd.C_below hC0 hw) (by omega))
  have hpl := h.lt.1
  have a0 := fun (o : Obj) => (pw_cell_below (below_alloc (Below.refl W.heap.size W) o) h0)
  have a1 := fun (o : Obj) => (pw_cell_below (below_alloc (Below.refl W.heap.size W) o) h1)
  have a2 := fun (o : Obj) => (pw_cell_below (below_alloc (Below.refl W.heap.size W) o) h2)
  clear h o hb hC0 h3 h4 h5 h6 h7
  go_enter Try.func21, Try.ntmps21
  go_wp2_with (go_at_call 35; refine (HCL.out _ ?_).mono ?_; exact (below_alloc (below_alloc (Below.refl _ _) _) _); rintro e w9 ⟨v9, rfl, hR9, hb9⟩; have HR9 := Lib.hid (rd_of_R hR9); obtain ⟨A5, c5, rfl, _, _⟩ := Kd.R_reads hR9; have HB9 := Lib.hid (below_step (below_alloc (below_alloc (Below.refl _ _) _) _) hb9); have b0 := blk_below (blk_alloc (blk_new W (Obj.cells #[Value.int IntKind.i64 0, Value.int IntKind.i64 0, Value.slice none 0 0] 24)) _) hb9; have b1 := blk_below (blk_new (W.alloc (Obj.cells #[Value.int IntKind.i64 0, Value.int IntKind.i64 0, Value.slice none 0 0] 24)) _) hb9; rw [show (W.alloc (Obj.cells #[Value.int IntKind.i64 0, Value.int IntKind.i64 0, Value.slice none 0 0] 24)).heap.size = W.heap.size + 1 from World.size_alloc _ _] at b1; have HQ0 := Lib.hid b0; have HQ1 := Lib.hid b1; have x0 := (cells3 b0).1; have x1 := (cells3 b0).2.1; have x2 := (cells3 b0).2.2; have y0 := (cells3 b1).1; have y1 := (cells3 b1).2.1; have y2 := (cells3 b1).2.2; have xf0 := blk_frozen b0 0; have xf1 := blk_frozen b0 1; have xf2 := blk_frozen b0 2; have yf := blk_frozen b1 2; clear hR9 hb9 b0 b1)
  have l1 := HR9.out.set HQ1.out (by decide) 2 (.slice A5 s.log.length c5)
  have e0 := blk_far HQ0.out (p := ⟨W.heap.size + 1, 2, none⟩) (by show W.heap.size ≠ W.heap.size + 1; omega) (.slice A5 s.log.length c5)
  have l2 := l1.set e0 (by decide) 0 (.int .i64 s.view)
  have e1 := blk_put e0 0 (.int .i64 s.view) rfl
  have l3 := l2.set e1 (by decide) 1 (.int .i64 s.normal)
  have e2 := blk_put e1 1 (.int .i64 s.normal) rfl
  have l4 := l3.set e2 (by decide) 2 (.slice A5 s.log.length c5)
  have e3 := blk_put e2 2 (.slice A5 s.log.length c5) rfl
  have hb := below_put (below_put (below_put (below_put HB9.out ⟨W.heap.size + 1, 2, none⟩ (Nat.le_succ _) (.slice A5 s.log.length c5)) ⟨W.heap.size, 0, none⟩ (Nat.le_refl _) (.int .i64 s.view)) ⟨W.heap.size, 1, none⟩ (Nat.le_refl _) (.int .i64 s.normal)) ⟨W.heap.size, 2, none⟩ (Nat.le_refl _) (.slice A5 s.log.length c5)
  clear x0 x1 x2 y0 y1 y2 xf0 xf1 xf2 yf l1 l2 l3 e0 e1 e2
  generalize (((w9.setCell ⟨W.heap.size + 1, 2, none⟩ (.slice A5 s.log.length c5)).setCell ⟨W.heap.size, 0, none⟩ (.int .i64 s.view)).setCell ⟨W.heap.size, 1, none⟩ (.int .i64 s.normal)).setCell ⟨W.heap.size, 2, none⟩ (.slice A5 s.log.length c5) = w5 at l4 e3 hb ⊢
  obtain ⟨k0, k1, k2⟩ := cells3 e3
  refine bodyPost_ret (v := .agg #[.int .i64 s.view, .int .i64 s.normal, .slice A5 s.log.length c5]) ?_ rfl ⟨A5, c5, rfl, l4, hb⟩
  simp [results, show (Try.f21).results = #[ResultVar.cell 2 24] from rfl, go_sem, k0, k1, k2]
end Go.Proofs.Ytndnjmgmdkkifaa.Vw1
/- Views in memory: turn at a part whose maps are whatever they are; the walk of New. -/
namespace Go.Proofs.Ytndnjmgmdkkifaa.Vw1
open Go Go.RowKit Go.Maps Go.Proofs Go.Proofs.Ytndnjmgmdkkifaa.New Go.Proofs.Ytndnjmgmdkkifaa.Vw Go.Proofs.Ytndnjmgmdkkifaa.Vw0 Go.Proofs.YtndnjmgmdkkifaaW.PrintWords Go.Proofs.YtndnjmgmdkkifaaW.PrintLast Go.Proofs.YtndnjmgmdkkifaaW.PrintMore
set_option linter.unusedVariables false
set_option linter.unusedSimpArgs false

set_option maxRecDepth 100000 in
theorem turn0_calls {W : World} {p : Nat} {A : Option Addr} {c : Nat} {s : V} {ma mb : Option Nat} (hb : W.heap[p]? = some (.cells #[.int .i64 s.view, .int .i64 s.normal, .slice A s.log.length c, .int .i64 s.me, .int .i64 s.many, .int .i64 s.stays, .map ma, .map mb] 73 (0, 0)))
    (hrd : Rd W (.slice A s.log.length c) s.log) (view' : Int) :
    Calls Try.prog 36 #[.pointer (some ⟨p, 0, none⟩), .int .i64 view'] W fun e w' => e = .returned (.tuple #[]) ∧ ∃ am' cm', VRep w' p am' cm' (s.fresh view') ∧ Fr W w' p p p ∧ W.heap.size ≤ am' ∧ W.heap.size ≤ cm' := by
  have hlt := blk_lt' hb
  obtain ⟨h0, h1, h2, h3, h4, h5, h6, h7⟩ := cells8 hb
  have f0 := blk_frozen hb 0
  have f6 := blk_frozen hb 6
  have f7 := blk_frozen hb 7
  have HB := Lib.hid hb
  have HRD := Lib.hid hrd
  have hmm := @run_makeMap Try.prog
  clear hb hrd h1 h2 h3 h4 h5
  go_enter Try.func36, Try.ntmps36
  go_wp2_with fail
  go_end0
  have hsz : (((W.setCell ⟨p, 0, none⟩ (.int .i64 view')).setCell ⟨p, 6, none⟩ (.map (some W.heap.size))).setCell ⟨p, 7, none⟩ (.map (some (W.heap.size + 1)))).heap.size = W.heap.size := by
    rw [World.size_setCell, World.size_setCell, World.size_setCell]
  have hF := set_fr (set_fr (set_fr (Fr.refl W p p p) 0 (.int .i64 view')) 6 (.map (some W.heap.size))) 7 (.map (some (W.heap.size + 1)))
  have b1 := blk_put HB.out 0 (.int .i64 view') rfl
  have b2 := blk_put b1 6 (.map (some W.heap.size)) rfl
  have hBK : (((W.setCell ⟨p, 0, none⟩ (.int .i64 view')).setCell ⟨p, 6, none⟩ (.map (some W.heap.size))).setCell ⟨p, 7, none⟩ (.map (some (W.heap.size + 1)))).heap[p]? = some (.cells #[.int .i64 view', .int .i64 s.normal, .slice A s.log.length c, .int .i64 s.me, .int .i64 s.many, .int .i64 s.stays, .map (some W.heap.size), .map (some (W.heap.size + 1))] 73 (0, 0)) :=
    blk_put b2 7 _ rfl
  have hRD := ((HRD.out.set HB.out (by decide) 0 (.int .i64 view')).set b1 (by decide) 6 (.map (some W.heap.size))).set b2 (by decide) 7 (.map (some (W.heap.size + 1)))
  generalize (((W.setCell ⟨p, 0, none⟩ (.int .i64 view')).setCell ⟨p, 6, none⟩ (.map (some W.heap.size))).setCell ⟨p, 7, none⟩ (.map (some (W.heap.size + 1)))) = W3 at hsz hF hBK hRD ⊢
  have hs2 : (W3.alloc (.map #[] 0)).heap.size = W.heap.size + 1 := by show (W3.heap.push _).size = _; simp [hsz]
  refine ⟨rfl, W.heap.size, W.heap.size + 1, ⟨⟨A, c, blk_alloc (blk_alloc hBK _) _, (hRD.below (below_alloc (Below.refl _ _) _)).below (below_alloc (Below.refl _ _) _)⟩, ⟨0, .map [], ?_, by omega⟩, ⟨0, .map [], ?_, by omega⟩, by omega⟩, alloc_fr (alloc_fr hF _) _, Nat.le_refl _, by omega⟩
  · have := oa_nil W3 s.many
    rw [hsz] at this
    exact ⟨own_block this.own (below_alloc (Below.refl _ _) _ |>.block _ (by rw [hs2]; omega)), this.at_, this.has, this.sz⟩
  · have := oc_nil (W3.alloc (.map #[] 0)) s.many
    rw [hs2] at this
    exact this
end Go.Proofs.Ytndnjmgmdkkifaa.Vw1
namespace Go.Proofs.Ytndnjmgmdkkifaa.Vw1
open Go Go.RowKit Go.Maps Go.Proofs Go.Proofs.Ytndnjmgmdkkifaa.New Go.Proofs.Ytndnjmgmdkkifaa.Vw Go.Proofs.Ytndnjmgmdkkifaa.Vw0 Go.Proofs.YtndnjmgmdkkifaaW.PrintWords Go.Proofs.YtndnjmgmdkkifaaW.PrintLast Go.Proofs.YtndnjmgmdkkifaaW.PrintMore
set_option linter.unusedVariables false
set_option linter.unusedSimpArgs false

theorem Rd.C0 {W : World} {A : Option Addr} {c : Nat} {l : Log} (h : Rd W (.slice A l.length c) l) : Kd.C Kd.string W A l.length l := by
  obtain ⟨A2, c2, e, _, h2, _⟩ := h
  cases e
  exact h2
def made (me many view normal : Int) (log : Log) : V := ⟨view, normal, log, me, many, 0, List.replicate many.toNat 0, List.replicate many.toNat none⟩
set_option maxHeartbeats 4000000 in
set_option maxRecDepth 100000 in
theorem New_calls {W : World} (me many view normal : Int) (log : Log) (A : Option Addr) (c : Nat) (hrd : Kd.C Kd.string W A log.length log) (b1 : 1 ≤ many) (b2 : many ≤ 5) (b3 : 0 ≤ me) (b4 : me < many) (b5 : rightL log = true) (b6 : 0 ≤ normal) (b7 : normal ≤ view) (b8 : view ≤ 281474976710656) :
    Calls Try.prog 12 #[.int .i64 me, .int .i64 many, .agg #[.int .i64 view, .int .i64 normal, .slice A log.length c]] W fun e w' => ∃ p am cm, e = .returned (.pointer (some ⟨p, 0, none⟩)) ∧ VRep w' p am cm (made me many view normal log) ∧ Fr W w' p p p ∧ W.heap.size ≤ p ∧ W.heap.size ≤ am ∧ W.heap.size ≤ cm := by
  have hll := rightL_len b5
  have HRL := Lib.hid (fun W' (hw : Below W.heap.size W W') => rightLog_calls A c log W' (Kd.C_below hrd hw) (by omega) (fun z hz => by have := rightL_size b5 z hz; omega))
  rw [b5] at HRL
  have HCL := Lib.hid (fun w (hw : Below W.heap.size W w) => clone_calls A c log w (Kd.C_below hrd hw) (by omega))
  clear hrd b5
  go_enter Try.func12, Try.ntmps12
  go_wp2_with (first | (go_at_call 34; refine (HRL.out _ ?_).mono ?_; exact (below_alloc (Below.refl _ _) _); rintro e w1 ⟨rfl, rfl⟩) | (go_at_call 35; refine (HCL.out _ ?_).mono ?_; exact (below_alloc (below_alloc (Below.refl _ _) _) _); rintro e w9 ⟨v9, rfl, hR9, hb9⟩; have HR9 := Lib.hid (rd_of_R hR9); obtain ⟨A5, c5, rfl, _, _⟩ := Kd.R_reads hR9; have HB9 := Lib.hid (below_step (below_alloc (below_alloc (Below.refl _ _) _) _) hb9); have k0 := blk_below (blk_alloc (blk_new W (Obj.cells #[Value.int .i64 view, Value.int .i64 normal, Value.slice A log.length c] 24)) _) hb9; have k1 := blk_below (blk_new (W.alloc (Obj.cells #[Value.int .i64 view, Value.int .i64 normal, Value.slice A log.length c] 24)) (Obj.cells #[Value.int .i64 view, Value.int .i64 normal, Value.slice A log.length c, Value.int .i64 me, Value.int .i64 many, Value.int .i64 0, Value.map none, Value.map none] 73)) hb9; rw [show (W.alloc (Obj.cells #[Value.int .i64 view, Value.int .i64 normal, Value.slice A log.length c] 24)).heap.size = W.heap.size + 1 from World.size_alloc _ _] at k1; have HQ0 := Lib.hid k0; have HQ1 := Lib.hid k1; have x0 := pw_cell_below (Below.refl w9.heap.size w9) (cells3 k0).1; have y2 := (cells8 k1).2.2.1; have yf := blk_frozen k1 2; clear hR9 hb9 k0 k1) | (go_at_call 36; refine (turn0_calls (s := ⟨view, normal, log, me, many, 0, [], []⟩) (A := A5) (c := c5) (ma := none) (mb := none) (blk_put HQ1.out 2 (.slice A5 log.length c5) rfl) (HR9.out.set HQ1.out (by decide) 2 _) view).mono ?_; rintro e w10 ⟨rfl, am, cm, hv, hf, ha, hc⟩; have HV := Lib.hid hv; have HF := Lib.hid hf; have HA := Lib.hid ha; have HC := Lib.hid hc; clear hv hf ha hc))
  go_ret
  exact ⟨W.heap.size + 1, am, cm, rfl, HV.out, (set_fr2 (Fr.of_below HB9.out) _ (fun hp => absurd hp (by omega))).trans HF.out (.inl rfl) (.inl rfl), Nat.le_succ _, Nat.le_trans (by rw [World.size_setCell]; exact HB9.out.size) HA.out, Nat.le_trans (by rw [World.size_setCell]; exact HB9.out.size) HC.out⟩
end Go.Proofs.Ytndnjmgmdkkifaa.Vw1
