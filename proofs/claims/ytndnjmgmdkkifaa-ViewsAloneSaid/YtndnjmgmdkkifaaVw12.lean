/- Views in memory: the walk of New, along the way on which a part is made. -/
import Derived.Test.YtndnjmgmdkkifaaVw11
namespace Go.Proofs.Ytndnjmgmdkkifaa.Vw1
open Go Go.RowKit Go.Maps Go.Proofs Go.Proofs.Ytndnjmgmdkkifaa.New Go.Proofs.Ytndnjmgmdkkifaa.Vw Go.Proofs.Ytndnjmgmdkkifaa.Vw0 Go.Proofs.YtndnjmgmdkkifaaW.PrintWords Go.Proofs.YtndnjmgmdkkifaaW.PrintLast Go.Proofs.YtndnjmgmdkkifaaW.PrintMore
set_option linter.unusedVariables false
set_option linter.unusedSimpArgs false

theorem Rd.C0 {W : World} {A : Option Addr} {c : Nat} {l : Log} (h : Rd W (.slice A l.length c) l) : Kd.C Kd.string W A l.length l := by
  obtain ⟨A2, c2, e, _, h2, _⟩ := h
  cases e
  exact h2
def made (me many view normal : Int) (log : Log) : V := ⟨view, normal, log, me, many, 0, List.replicate many.toNat 0, List.replicate many.toNat none⟩
set_option maxHeartbeats 4000000 in
set_option maxRecDepth 100000 in
theorem New_calls {W : World} (me many view normal : Int) (log : Log) (A : Option Addr) (c : Nat) (hrd : Kd.C Kd.string W A log.length log) (b1 : 1 ≤ many) (b2 : many ≤ 5) (b3 : 0 ≤ me) (b4 : me < many) (b5 : rightL log = true) (b6 : 0 ≤ normal) (b7 : normal ≤ view) (b8 : view ≤ 281474976710656) :
    Calls Try.prog 12 #[.int .i64 me, .int .i64 many, .agg #[.int .i64 view, .int .i64 normal, .slice A log.length c]] W fun e w' => ∃ p am cm, e = .returned (.pointer (some ⟨p, 0, none⟩)) ∧ VRep w' p am cm (made me many view normal log) ∧ Fr W w' p p p ∧ W.heap.size ≤ p ∧ W.heap.size ≤ am ∧ W.heap.size ≤ cm := by
  have hll := rightL_len b5
  have HRL := Lib.hid (fun W' (hw : Below W.heap.size W W') => rightLog_calls A c log W' (Kd.C_below hrd hw) (by omega) (fun z hz => by have := rightL_size b5 z hz; omega))
  rw [b5] at HRL
  have HCL := Lib.hid (fun w (hw : Below W.heap.size W w) => clone_calls A c log w (Kd.C_below hrd hw) (by omega))
  clear hrd b5
  go_enter Try.func12, Try.ntmps12
  go_wp2_with (first | (go_at_call 34; refine (HRL.out _ ?_).mono ?_; exact (below_alloc (Below.refl _ _) _); rintro e w1 ⟨rfl, rfl⟩) | (go_at_call 35; refine (HCL.out _ ?_).mono ?_; exact (below_alloc (below_alloc (Below.refl _ _) _) _); rintro e w9 ⟨v9, rfl, hR9, hb9⟩; have HR9 := Lib.hid (rd_of_R hR9); obtain ⟨A5, c5, rfl, _, _⟩ := Kd.R_reads hR9; have HB9 := Lib.hid (below_step (below_alloc (below_alloc (Below.refl _ _) _) _) hb9); have k0 := blk_below (blk_alloc (blk_new W (Obj.cells #[Value.int .i64 view, Value.int .i64 normal, Value.slice A log.length c] 24)) _) hb9; have k1 := blk_below (blk_new (W.alloc (Obj.cells #[Value.int .i64 view, Value.int .i64 normal, Value.slice A log.length c] 24)) (Obj.cells #[Value.int .i64 view, Value.int .i64 normal, Value.slice A log.length c, Value.int .i64 me, Value.int .i64 many, Value.int .i64 0, Value.map none, Value.map none] 73)) hb9; rw [show (W.alloc (Obj.cells #[Value.int .i64 view, Value.int .i64 normal, Value.slice A log.length c] 24)).heap.size = W.heap.size + 1 from World.size_alloc _ _] at k1; have HQ0 := Lib.hid k0; have HQ1 := Lib.hid k1; have x0 := pw_cell_below (Below.refl w9.heap.size w9) (cells3 k0).1; have y2 := (cells8 k1).2.2.1; have yf := blk_frozen k1 2; clear hR9 hb9 k0 k1) | (go_at_call 36; refine (turn0_calls (s := ⟨view, normal, log, me, many, 0, [], []⟩) (A := A5) (c := c5) (ma := none) (mb := none) (blk_put HQ1.out 2 (.slice A5 log.length c5) rfl) (HR9.out.set HQ1.out (by decide) 2 _) view).mono ?_; rintro e w10 ⟨rfl, am, cm, hv, hf, ha, hc⟩; have HV := Lib.hid hv; have HF := Lib.hid hf; have HA := Lib.hid ha; have HC := Lib.hid hc; clear hv hf ha hc))
  go_ret
  exact ⟨W.heap.size + 1, am, cm, rfl, HV.out, (set_fr2 (Fr.of_below HB9.out) _ (fun hp => absurd hp (by omega))).trans HF.out (.inl rfl) (.inl rfl), Nat.le_succ _, Nat.le_trans (by rw [World.size_setCell]; exact HB9.out.size) HA.out, Nat.le_trans (by rw [World.size_setCell]; exact HB9.out.size) HC.out⟩
end Go.Proofs.Ytndnjmgmdkkifaa.Vw1
