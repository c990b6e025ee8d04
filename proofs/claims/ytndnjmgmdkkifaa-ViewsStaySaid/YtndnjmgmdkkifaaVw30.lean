/- The walk of a team's step. -/
import Derived.Test.YtndnjmgmdkkifaaVw35
import Derived.Deep.DrawnRows
import Derived.Outline
import Derived.Deep.Cut
import Derived.Deep.CutRange
import Derived.Deep.CutBlock
import Derived.StillTailTactics
namespace Go.Proofs.Ytndnjmgmdkkifaa.Vw1
open Go Go.RowKit Go.Maps Go.Proofs Go.Proofs.Ytndnjmgmdkkifaa.New Go.Proofs.Ytndnjmgmdkkifaa.Vw Go.Proofs.Ytndnjmgmdkkifaa.Vw0 Go.Proofs.Ytndnjmgmdkkifaa.Q Go.Proofs.YtndnjmgmdkkifaaW.PrintWords Go.Proofs.YtndnjmgmdkkifaaW.PrintLast Go.Proofs.YtndnjmgmdkkifaaW.PrintMore
set_option linter.unusedVariables false
set_option linter.unusedSimpArgs false

/-- a move as the plain law has it -/
def mvOf (x : S55) : St.Move := ⟨x.f0, x.f1, x.f2, x.f3, x.f4, x.f5⟩
/-- is the replica begun anew behind a move? -/
def lostB (x : S55) : Bool := (x.f5 && (x.f0 != 3 && x.f0 != 4)) || x.f0 == 9
/-- behind the switch -/
def tailT (x : S55) (i : Nat) (r0 r1 : Nat → V) (way : List St.Fly) : St.Team := if lostB x = true then (St.upd r1 i (St.anew (r0 i)), way) else (r1, way)
def boxM (x : S55) : Obj := .cells #[.int .i64 x.f0, .int .i64 x.f1, .int .i64 x.f2, .int .i64 x.f3, .string x.f4, .bool x.f5] 55
theorem fin_tail {x : S55} (hl : lostB x = x.f5) (i : Nat) (r : Nat → V) (s : V) (way0 way : List St.Fly) : St.fin (mvOf x) (r, way0) i s way = tailT x i r (St.upd r i s) way := by
  unfold St.fin tailT
  rw [hl]
  show (St.upd r i (if x.f5 = true then St.anew (r i) else s), way) = _
  split
  · rw [St.upd_upd]
  · rfl
theorem lost_is {x : S55} (h3 : x.f0 ≠ 3) (h4 : x.f0 ≠ 4) (h9 : x.f0 ≠ 9) : lostB x = x.f5 := by
  unfold lostB
  have e3 : (x.f0 != 3) = true := bne_iff_ne.2 h3
  have e4 : (x.f0 != 4) = true := bne_iff_ne.2 h4
  have e9 : (x.f0 == 9) = false := beq_eq_false_iff_ne.2 h9
  rw [e3, e4, e9, Bool.and_self, Bool.and_true, Bool.or_false]
theorem mv_01 {x : S55} {i0 : Nat} (hi : x.f1 = (i0 : Int)) (h : x.f0 = 0 ∨ x.f0 = 1) (r : Nat → V) (way : List St.Fly) : St.moveT (mvOf x) (r, way) = tailT x i0 r (St.upd r i0 ((r i0).propose x.f4).1) way := by
  rw [← fin_tail (lost_is (by omega) (by omega) (by omega)) i0 r _ way]
  unfold St.moveT
  rw [show (mvOf x).what = x.f0 from rfl]
  rw [if_pos h]
  have : (mvOf x).who.toNat = i0 := by show x.f1.toNat = i0; omega
  rw [this]
  rfl
theorem mv_2 {x : S55} {i0 : Nat} (hi : x.f1 = (i0 : Int)) (h : x.f0 = 2) (r : Nat → V) (way : List St.Fly) : St.moveT (mvOf x) (r, way) = tailT x i0 r (St.upd r i0 (r i0).turn.1) way := by
  rw [← fin_tail (lost_is (by omega) (by omega) (by omega)) i0 r _ way]
  unfold St.moveT
  rw [show (mvOf x).what = x.f0 from rfl]
  rw [if_neg (show ¬ (x.f0 = 0 ∨ x.f0 = 1) by omega), if_pos (show x.f0 = 2 from h)]
  have : (mvOf x).who.toNat = i0 := by show x.f1.toNat = i0; omega
  rw [this]
theorem mv_34 {x : S55} {i0 : Nat} (hi : x.f1 = (i0 : Int)) (h : x.f0 = 3 ∨ x.f0 = 4) (r : Nat → V) (way : List St.Fly) :
    St.moveT (mvOf x) (r, way) = tailT x i0 r r (if ((r i0).send x.f2).2 = true ∧ way.length < 200 then way ++ [⟨i0, x.f2.toNat, ((r i0).send x.f2).1⟩] else way) := by
  have hl : lostB x = false := by
    unfold lostB
    rcases h with h | h <;> rw [h] <;> simp
  unfold St.moveT tailT
  rw [show (mvOf x).what = x.f0 from rfl]
  rw [if_neg (show ¬ (x.f0 = 0 ∨ x.f0 = 1) by omega), if_neg (show ¬ x.f0 = 2 by omega), if_pos (show x.f0 = 3 ∨ x.f0 = 4 from h), hl]
  have : (mvOf x).who.toNat = i0 := by show x.f1.toNat = i0; omega
  rw [this]
  rfl
theorem mv_else {x : S55} {i0 : Nat} (hi : x.f1 = (i0 : Int)) (h : x.f0 < 0 ∨ 8 < x.f0) (r : Nat → V) (way : List St.Fly) : St.moveT (mvOf x) (r, way) = tailT x i0 r r way := by
  unfold St.moveT tailT
  rw [show (mvOf x).what = x.f0 from rfl]
  rw [if_neg (show ¬ (x.f0 = 0 ∨ x.f0 = 1) by omega), if_neg (show ¬ x.f0 = 2 by omega), if_neg (show ¬ (x.f0 = 3 ∨ x.f0 = 4) by omega), if_neg (show ¬ (5 ≤ x.f0 ∧ x.f0 ≤ 8) by omega)]
  have : (mvOf x).who.toNat = i0 := by show x.f1.toNat = i0; omega
  rw [this]
  have e3 : (x.f0 != 3) = true := bne_iff_ne.2 (by omega)
  have e4 : (x.f0 != 4) = true := bne_iff_ne.2 (by omega)
  have e : lostB x = (x.f5 || x.f0 == 9) := by unfold lostB; rw [e3, e4, Bool.and_self, Bool.and_true]
  rw [e]
  show (St.upd r i0 (if x.f5 = true ∨ x.f0 = 9 then St.anew (r i0) else r i0), way) = _
  by_cases c : x.f5 = true ∨ x.f0 = 9
  · rw [if_pos c, if_pos (by simpa using c)]
  · rw [if_neg c, if_neg (by simpa using c), St.upd_self]
theorem mv_58 {x : S55} (h : 5 ≤ x.f0 ∧ x.f0 ≤ 8) (r : Nat → V) (way : List St.Fly) (hn : way.length = 0 ∨ x.f3 < 0) : St.moveT (mvOf x) (r, way) = (r, way) := by
  unfold St.moveT
  rw [show (mvOf x).what = x.f0 from rfl]
  rw [if_neg (show ¬ (x.f0 = 0 ∨ x.f0 = 1) by omega), if_neg (show ¬ x.f0 = 2 by omega), if_neg (show ¬ (x.f0 = 3 ∨ x.f0 = 4) by omega), if_pos (show 5 ≤ x.f0 ∧ x.f0 ≤ 8 from h), if_pos (show ((r, way) : St.Team).2.length = 0 ∨ (mvOf x).at_ < 0 from hn)]
/-- which letter comes -/
def wayLess (x : S55) (way : List St.Fly) (k : Nat) : List St.Fly := if x.f0 = 7 then way else way.eraseIdx k
theorem mv_58k {x : S55} (h : 5 ≤ x.f0 ∧ x.f0 ≤ 8) (r : Nat → V) (way : List St.Fly) (h0 : 0 < way.length) (h3 : 0 ≤ x.f3) {k : Nat} (hk : x.f3 % (way.length : Int) = (k : Int)) {f : St.Fly} (hf : way[k]? = some f) :
    St.moveT (mvOf x) (r, way) = if x.f0 = 8 then (r, wayLess x way k) else tailT x f.to_ r (St.upd r f.to_ ((r f.to_).take f.fr f.l).1) (wayLess x way k) := by
  have hk2 : ((mvOf x).at_ % ((r, way) : St.Team).2.length).toNat = k := by show (x.f3 % (way.length : Int)).toNat = k; omega
  unfold St.moveT
  rw [show (mvOf x).what = x.f0 from rfl]
  rw [if_neg (show ¬ (x.f0 = 0 ∨ x.f0 = 1) by omega), if_neg (show ¬ x.f0 = 2 by omega), if_neg (show ¬ (x.f0 = 3 ∨ x.f0 = 4) by omega), if_pos (show 5 ≤ x.f0 ∧ x.f0 ≤ 8 from h), if_neg (show ¬ (((r, way) : St.Team).2.length = 0 ∨ (mvOf x).at_ < 0) from fun e => by have e : way.length = 0 ∨ x.f3 < 0 := e; omega), hk2]
  show (match way[k]? with | none => _ | some f => _) = _
  rw [hf]
  show (if x.f0 = 8 then (r, wayLess x way k) else St.fin (mvOf x) (r, way) f.to_ ((r f.to_).take f.fr f.l).1 (wayLess x way k)) = _
  split
  · rfl
  · next e => rw [fin_tail (lost_is (by omega) (by omega) (by omega))]
theorem newV_of' {s : V} (o : OkV s) : newV s.me s.many s.view s.normal s.log = some (made s.me s.many s.view s.normal s.log) := by
  unfold newV
  rw [if_pos]
  · rfl
  · simp only [Bool.and_eq_true, decide_eq_true_eq]
    exact ⟨o.many.1, o.many.2, o.me.1, o.me.2, o.log, o.normal.1, o.normal.2, o.view⟩
theorem cell_keep' {w w1 : World} (hb : Below w.heap.size w w1) {a : Addr} {v : Value} (h : w.cell? a = some v) : w1.cell? a = some v := (hb.cell (World.block_lt_of_cell? w _ h)).trans h
theorem frozen_keep {w w1 : World} (hb : Below w.heap.size w w1) {a : Addr} {v : Value} (h : w.cell? a = some v) (k : w.frozen? a = false) : w1.frozen? a = false := (hb.frozen (World.block_lt_of_cell? w _ h)).trans k
theorem cells6 {w : World} {g t : Nat} {v0 v1 v2 v3 v4 v5 : Value} (h : w.heap[g]? = some (.cells #[v0, v1, v2, v3, v4, v5] t (0, 0))) : w.cell? ⟨g, 0, none⟩ = some v0 ∧ w.cell? ⟨g, 1, none⟩ = some v1 ∧ w.cell? ⟨g, 2, none⟩ = some v2 ∧ w.cell? ⟨g, 3, none⟩ = some v3 ∧ w.cell? ⟨g, 4, none⟩ = some v4 ∧ w.cell? ⟨g, 5, none⟩ = some v5 :=
  ⟨(blk_cell h 0).trans rfl, (blk_cell h 1).trans rfl, (blk_cell h 2).trans rfl, (blk_cell h 3).trans rfl, (blk_cell h 4).trans rfl, (blk_cell h 5).trans rfl⟩
end Go.Proofs.Ytndnjmgmdkkifaa.Vw1
