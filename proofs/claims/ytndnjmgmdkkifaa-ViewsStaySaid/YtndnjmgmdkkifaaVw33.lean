/- A letter laid into a block of its own. -/
import Derived.Test.YtndnjmgmdkkifaaVw31
namespace Go.Proofs.Ytndnjmgmdkkifaa.Vw1
open Go Go.RowKit Go.Maps Go.Proofs Go.Proofs.Ytndnjmgmdkkifaa.New Go.Proofs.Ytndnjmgmdkkifaa.Vw Go.Proofs.Ytndnjmgmdkkifaa.Vw0 Go.Proofs.Ytndnjmgmdkkifaa.Q Go.Proofs.YtndnjmgmdkkifaaW.PrintWords Go.Proofs.YtndnjmgmdkkifaaW.PrintLast Go.Proofs.YtndnjmgmdkkifaaW.PrintMore
set_option linter.unusedVariables false
set_option linter.unusedSimpArgs false

theorem cell_set1 {w : World} {g j b o : Nat} {u v : Value} (hb : b ≠ g) (h : w.cell? ⟨b, o, none⟩ = some v) : (w.setCell ⟨g, j, none⟩ u).cell? ⟨b, o, none⟩ = some v := by
  rw [← h]
  unfold World.cell?
  rw [show (w.setCell ⟨g, j, none⟩ u).heap[(⟨b, o, none⟩ : Addr).block]? = w.heap[(⟨b, o, none⟩ : Addr).block]? from Below.heap_setCell w ⟨g, j, none⟩ u b hb]
theorem cell_keep0 {w w1 : World} (hb : Below w.heap.size w w1) {a : Addr} {v : Value} (h : w.cell? a = some v) : w1.cell? a = some v := (hb.cell (World.block_lt_of_cell? w _ h)).trans h
section
variable {w W W0 : World} {g b o : Nat} {v v0 v1 v2 v3 v4 v5 v6 v7 : Value}
theorem ck_drew (h : w.cell? ⟨b, o, none⟩ = some v) : w.drew.cell? ⟨b, o, none⟩ = some v := cell_keep0 (below_drew (Below.refl _ _)) h
theorem bk_drew (w : World) : Below w.heap.size w w.drew := below_drew (Below.refl _ _)
theorem bk_call (hb : Below w.drew.heap.size w.drew W) : Below w.heap.size w W := (bk_drew w).trans hb
theorem ck_call (hb : Below w.drew.heap.size w.drew W) (h : w.cell? ⟨b, o, none⟩ = some v) : W.cell? ⟨b, o, none⟩ = some v := cell_keep0 (bk_call hb) h
theorem bk_calloc (hb : Below w.drew.heap.size w.drew W) (x : Obj) : Below w.heap.size w (W.alloc x) := below_alloc (bk_call hb) x
theorem ck_calloc (hb : Below w.drew.heap.size w.drew W) (x : Obj) (h : w.cell? ⟨b, o, none⟩ = some v) : (W.alloc x).cell? ⟨b, o, none⟩ = some v := cell_keep0 (bk_calloc hb x) h
theorem bk_alloc (w : World) (x : Obj) : Below w.heap.size w (w.alloc x).drew := below_drew (below_alloc (Below.refl _ _) x)
theorem ck_alloc (x : Obj) (h : w.cell? ⟨b, o, none⟩ = some v) : (w.alloc x).drew.cell? ⟨b, o, none⟩ = some v := cell_keep0 (bk_alloc w x) h
theorem bk_acall {x : Obj} (hb : Below (w.alloc x).drew.heap.size (w.alloc x).drew W) : Below w.heap.size w W := (bk_alloc w x).trans (hb.mono (by show _ ≤ (w.heap.push x).size; rw [Array.size_push]; omega))
theorem ck_acall {x : Obj} (hb : Below (w.alloc x).drew.heap.size (w.alloc x).drew W) (h : w.cell? ⟨b, o, none⟩ = some v) : W.cell? ⟨b, o, none⟩ = some v := cell_keep0 (bk_acall hb) h
/-- a row laid over a block -/
structure RowSet (w : World) (g : Nat) (cells : Array Value) (t : TypeId) (w2 : World) : Prop where
  blk : w2.heap[g]? = some (.cells cells t (0, 0))
  rest : w.grownBy w2 (some g)
/-- a store of a whole struct, met by a law of its own -/
def StoreL (P : Program) (o : Oper) (a : Act) (w : World) (K : Act → World → Prop) (Q : Exit → Act → World → Prop) : Prop := Oper.wp P o a w K Q
theorem wp_storeL {P : Program} {d : Option Tmp} {x y : Operand} {t : TypeId} {pos : String} {after : Array Edge} {a : Act} {w : World} {K : Act → World → Prop} {Q : Exit → Act → World → Prop} :
    Oper.wp P ⟨d, .store 33 x y, t, pos, after, none⟩ a w K Q = StoreL P ⟨d, .store 33 x y, t, pos, after, none⟩ a w K Q := rfl
theorem storeL_row {d : Option Tmp} {x y : Operand} {ty : TypeId} {pos : String} {after : Array Edge} {a : Act} {w : World} {K : Act → World → Prop} {Q : Exit → Act → World → Prop} {g : Nat} {old : Array Value} (hg : w.heap[g]? = some (.cells old 33 (0, 0))) {u0 u1 u2 u3 u4 u5 u6 u7 : Value}
    (hx : a.eval x = .pointer (some ⟨g, 0, none⟩)) (hy : a.eval y = .agg #[u0, u1, u2, u3, u4, u5, u6, u7]) (hold : old.size = 8) (h1 : [u0, u1, u2, u3, u4, u5, u6, u7].all (·.oneCell') = true)
    (h : ∀ w2, RowSet w g #[u0, u1, u2, u3, u4, u5, u6, u7] 33 w2 → K (a.put d undef) w2) : StoreL Try.prog ⟨d, .store 33 x y, ty, pos, after, none⟩ a w K Q := by
  unfold StoreL
  refine wp_store_row 33 x y rfl g _ hx hy 33 old hg (by kernel_rfl) hold (by simpa using h1) (h _ ⟨setRow_heap w g _ _ _ _ hg, ⟨rfl, rfl, rfl, by simp [World.setRow], fun k hk hne => setRow_other w g k _ (fun e => hne (by rw [e]))⟩⟩)
theorem bk_row1 {z : Obj} {cells : Array Value} {t : TypeId} {w2 : World} (hb : Below w.drew.heap.size w.drew W) (hs : RowSet (W.alloc z) W.heap.size cells t w2) : Below w.heap.size w w2 := by
  have h := bk_calloc hb z
  have hz : w.heap.size ≤ W.heap.size := (bk_call hb).size
  exact ⟨hs.rest.os.trans h.os, hs.rest.tape.trans h.tape, hs.rest.output.trans h.output, Nat.le_trans h.size hs.rest.size, fun k hk => (hs.rest.block k (Nat.lt_of_lt_of_le hk h.size) (fun e => by cases e; omega)).trans (h.block k hk)⟩
theorem bk_row2 {x : Obj} {cells : Array Value} {t : TypeId} {w2 : World} (hb : Below (w.alloc x).drew.heap.size (w.alloc x).drew W) (hs : RowSet W w.heap.size cells t w2) : Below w.heap.size w w2 := by
  have h := bk_acall hb
  exact ⟨hs.rest.os.trans h.os, hs.rest.tape.trans h.tape, hs.rest.output.trans h.output, Nat.le_trans h.size hs.rest.size, fun k hk => (hs.rest.block k (Nat.lt_of_lt_of_le hk h.size) (fun e => by cases e; omega)).trans (h.block k hk)⟩
theorem RowSet.rows9 {cells old : Array Value} {t : TypeId} {w2 : World} (hs : RowSet W g cells t w2) (hg : W.heap[g]? = some (.cells old t (0, 0))) (ht : t ≠ 73) (ht9 : t ≠ 9) : Rows9 W w2 :=
  Rows9.grown hs.rest fun k hk => by cases hk; exact ⟨_, _, _, hg, ht, ht9⟩
end
end Go.Proofs.Ytndnjmgmdkkifaa.Vw1
