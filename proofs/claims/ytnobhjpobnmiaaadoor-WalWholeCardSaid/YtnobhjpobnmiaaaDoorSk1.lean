/- A disk in memory: its map of sectors. -/
import Derived.Test.YtnobhjpobnmiaaaDoorSk0
import Derived.Test.YtnobhjpobnmiaaaDoorLKeys
import Derived.Test.YtnobhjpobnmiaaaDoorShelf
import Derived.Test.YtnobhjpobnmiaaaDoorWLast
import Derived.Test.YtnobhjpobnmiaaaDoorWMore
import Derived.Test.YtnobhjpobnmiaaaDoorWShare
import Derived.WalkLawsBesides
import Derived.Lib.Hide
import Derived.Deep.LoopGhost
import Derived.Deep.QuietTactic
import Derived.BigQuiet
import Derived.Maps.OwnSet
import Derived.Maps.RangeWalk
import Derived.Maps.Views
import Derived.Carry
namespace Go.Proofs.YtnobhjpobnmiaaaDoor.Sk
open Go Go.RowKit Go.Maps Go.Proofs Go.Proofs.YtnobhjpobnmiaaaDoorW.PrintWords Go.Proofs.YtnobhjpobnmiaaaDoorW.PrintLast Go.Proofs.YtnobhjpobnmiaaaDoorW.PrintMore
set_option linter.unusedVariables false
set_option linter.unusedSimpArgs false

theorem run_clear_map {P : Program} {w : World} {t k e : TypeId} {r : Nat} {es : Array MapEntry} {clock : Nat} (hu : P.underlying t = some (.map k e)) (h : w.heap[r]? = some (.map es clock)) (ty : TypeId) :
    (Builtin.clear_ #[t] ty #[.map (some r)]).run P w = .ok (.tuple #[]) (Go.ChangeMaps.setBlock w r (.map #[] clock)) := by
  simp [Builtin.clear_, run_underlying hu, MapKept.run_getObj_map h, MapKept.run_setObj_map _ h, Result.andThen, Go.ChangeMaps.setBlock]
theorem u3 : Tryd.prog.underlying 3 = some (.int .i64) := by kernel_rfl
theorem um : Tryd.prog.underlying 53 = some (.map 3 72) := by kernel_rfl
theorem law3 : Keyed Tryd.prog 3 := int_keyed u3
def zpart : Array Value := #[.int .u8 0, .int .u8 0, .int .u8 0, .int .u8 0, .int .u8 0, .int .u8 0, .int .u8 0, .int .u8 0, .int .u8 0, .int .u8 0, .int .u8 0, .int .u8 0, .int .u8 0, .int .u8 0, .int .u8 0, .int .u8 0]
theorem zpart_is (w : World) : (zeroValue 72).run Tryd.prog w = .ok (.agg zpart) w := by kernel_rfl
abbrev Dp := DataW Value
/-- an element of the map of sectors -/
def pElem (v : Value) : Option (DataW Value × List MemPlace) :=
  match v with
  | .agg cs => some (.held (.agg cs), [])
  | _ => none
theorem pElem_inv {v : Value} {z : DataW Value × List MemPlace} (h : pElem v = some z) : ∃ cs, v = .agg cs ∧ z = (.held v, []) := by
  unfold pElem at h
  split at h
  · next cs => cases h; exact ⟨cs, rfl, rfl⟩
  · cases h
def cntH {H : Type} (D : DataW H) (n : Nat) : Nat := (List.range n).countP (fun i : Nat => Maps.has D (.int .i64 (i : Int)))
/-- bytes as values -/
def enc (l : By) : List Value := l.map (Value.int .u8)
/-- block m is the map of what loose sectors were -/
structure OW (W : World) (m : Nat) (wet : List Bool) (old : By) (n : Nat) (D : Dp) : Prop where
  own : W.ownsMap Tryd.prog 3 pElem m n D
  not_ : ∀ i : Nat, i < wet.length → wet.getD i false = false → Maps.has D (.int .i64 (i : Int)) = false
  yes : ∀ i : Nat, i < wet.length → wet.getD i false = true → Maps.has D (.int .i64 (i : Int)) = true ∧ ∀ z, D.atKey (.int .i64 (i : Int)) z = .held (.agg (enc (sec old i)).toArray)
  dom : ∀ i : Int, Maps.has D (.int .i64 i) = true → 0 ≤ i ∧ i < wet.length
  keys : ∃ es, D = .map es ∧ ∀ p ∈ es, ∃ x, p.1 = .int .i64 x
  sz : Maps.size D = cntH D wet.length
theorem own_block {W W' : World} {P : Program} {k : TypeId} {H : Type} {R : Value → Option (DataW H × List MemPlace)} {b n : Nat} {D : DataW H} (h : W.ownsMap P k R b n D) (hb : W'.heap[b]? = W.heap[b]?) : W'.ownsMap P k R b n D := by
  obtain ⟨es, clock, h0, F, hs, hD⟩ := h
  exact ⟨es, clock, hb.trans h0, F, hs, hD⟩
theorem own_kind {W : World} {P : Program} {k : TypeId} {H : Type} {R : Value → Option (DataW H × List MemPlace)} {b n : Nat} {D : DataW H} (h : W.ownsMap P k R b n D) : ∃ es clock, W.heap[b]? = some (Obj.map es clock) := by
  obtain ⟨es, clock, h0, _⟩ := h
  exact ⟨es, clock, h0⟩
theorem OW.keep {W W' : World} {m n : Nat} {wet : List Bool} {old : By} {D : Dp} (h : OW W m wet old n D) (hb : W'.heap[m]? = W.heap[m]?) : OW W' m wet old n D := ⟨own_block h.own hb, h.not_, h.yes, h.dom, h.keys, h.sz⟩
theorem wf64 (i : Nat) (h : i ≤ 1000000) : (Lit.int .i64 (i : Int)).wf = true := by
  simp only [Lit.wf, Bool.and_eq_true, decide_eq_true_eq]
  constructor
  · exact Int.le_trans (by decide : IntKind.i64.min ≤ 0) (by omega)
  · exact Int.le_trans (by omega : (i : Int) ≤ 1000000) (by decide)
theorem own_tight {W : World} {P : Program} {k : TypeId} {H : Type} {R : Value → Option (DataW H × List MemPlace)} {b n : Nat} {D : DataW H} (h : W.ownsMap P k R b n D) : W.ownsMap P k R b (Maps.size D) D := by
  obtain ⟨es, clock, hb, F, hs, hD⟩ := h
  refine ⟨es, clock, hb, F, ?_, hD⟩
  rw [hD]
  simp [Maps.size, length_sorted]
theorem isKey (i : Int) : WideAt.IsKeyLit (.int .i64 i) := trivial
theorem key_ne {i j : Int} (h : i ≠ j) : (Lit.int .i64 i) ≠ .int .i64 j := fun e => by cases e; exact h rfl
theorem cntH_le {H : Type} (D : DataW H) (n : Nat) : cntH D n ≤ n := by
  have : cntH D n ≤ (List.range n).length := List.countP_le_length
  rwa [List.length_range] at this
section
variable {W : World} {m n : Nat} {wet : List Bool} {old : By} {D : Dp}
/-- nothing is loose -/
theorem ow_nil (W : World) (k : Nat) (old : By) : OW (W.alloc (.map #[] 0)) W.heap.size (List.replicate k false) old 0 (.map []) :=
  ⟨World.ownsMap_made _ _ _ _, fun i hi _ => by simp [has_eq], (fun i hi h => by rw [repl_get] at h; cases h), fun i hi => by simp [has_eq] at hi, ⟨[], rfl, (fun p hp => by cases hp)⟩, by simp [size_eq, cntH, has_eq, List.countP_eq_zero]⟩
theorem ow_clear (h : OW W m wet old n D) (old' : By) : ∃ W', (∀ ty, (Builtin.clear_ #[53] ty #[.map (some m)]).run Tryd.prog W = .ok (.tuple #[]) W') ∧ OW W' m (List.replicate wet.length false) old' 0 (.map []) ∧ W.mapTurned W' m := by
  obtain ⟨es, clock, hb⟩ := own_kind h.own
  refine ⟨_, fun ty => run_clear_map um hb ty, ⟨⟨#[], clock, Go.ChangeMaps.heap_setBlock_same hb _, ⟨by simp, MapKept.stamped_empty clock, by simp⟩, Nat.le_refl _, rfl⟩, fun i hi _ => by simp [has_eq], (fun i hi h => by rw [repl_get] at h; cases h), fun i hi => by simp [has_eq] at hi, ⟨[], rfl, (fun p hp => by cases hp)⟩, by simp [size_eq, cntH, has_eq, List.countP_eq_zero]⟩, ⟨es, clock, _, _, hb, rfl⟩⟩
theorem look_not (h : OW W m wet old n D) (i : Nat) (hi : i < wet.length) (hx : wet.getD i false = false) (hw : i ≤ 1000000) :
    (Instr.lookup 53 (.map (some m)) (.int .i64 (i : Int)) true).run Tryd.prog W = .ok (.tuple #[.agg zpart, .bool false]) W := by
  obtain ⟨v, ps, hr, hv⟩ := h.own.look_ok law3 um (zpart_is W) (R := pElem) (z := .agg zpart) rfl (key := .int .i64 (i : Int)) (kl := .int .i64 (i : Int)) (keyOf_int_mk u3 (wf64 i hw))
  rw [h.not_ i hi hx] at hr
  rw [atKey_of_not_has (h.not_ i hi hx)] at hv
  obtain ⟨cs, rfl, hz⟩ := pElem_inv hv
  cases hz
  exact hr
theorem look_yes (h : OW W m wet old n D) (i : Nat) (hi : i < wet.length) (hx : wet.getD i false = true) (hw : i ≤ 1000000) (c : Bool) :
    (Instr.lookup 53 (.map (some m)) (.int .i64 (i : Int)) c).run Tryd.prog W = .ok (if c = true then .tuple #[.agg (enc (sec old i)).toArray, .bool true] else .agg (enc (sec old i)).toArray) W := by
  obtain ⟨h1, h2⟩ := h.yes i hi hx
  obtain ⟨es, clock, hb, F, _, hD⟩ := h.own
  rcases Maps.fit_look c law3 um (zpart_is W) hb F (keyOf_int_mk u3 (wf64 i hw)) with ⟨hrun, _, hat⟩ | ⟨e0, y, _, _, hrun, hRv, hat, _⟩
  · rw [← hD] at hat
    rw [has_false_of_atKey hat] at h1
    cases h1
  · rw [← hD] at hat
    obtain ⟨cs, hv, hz⟩ := pElem_inv hRv
    have := h2 (.lit (.bool true))
    rw [hat, hz, hv] at this
    cases this
    rw [hrun, hv]
end
end Go.Proofs.YtnobhjpobnmiaaaDoor.Sk
