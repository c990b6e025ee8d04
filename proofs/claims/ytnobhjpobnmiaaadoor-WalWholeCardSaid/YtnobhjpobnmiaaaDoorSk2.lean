/- A disk in memory: its map of sectors, a sector more; its keys in order; the disk. -/
import Derived.Test.YtnobhjpobnmiaaaDoorSk1
namespace Go.Proofs.YtnobhjpobnmiaaaDoor.Sk
open Go Go.RowKit Go.Maps Go.Proofs Go.Proofs.YtnobhjpobnmiaaaDoorW.PrintWords Go.Proofs.YtnobhjpobnmiaaaDoorW.PrintLast Go.Proofs.YtnobhjpobnmiaaaDoorW.PrintMore
set_option linter.unusedVariables false
set_option linter.unusedSimpArgs false

theorem set_getD {α : Type} (l : List α) (i j : Nat) (v d : α) (h : i < l.length) : (l.set i v).getD j d = if j = i then v else l.getD j d := by
  by_cases e : j = i
  · subst e
    rw [if_pos rfl, List.getD_eq_getElem?_getD, List.getElem?_set_self h]
    rfl
  · rw [if_neg e, List.getD_eq_getElem?_getD, List.getD_eq_getElem?_getD, List.getElem?_set_ne (Ne.symm e)]
theorem cntH_put {H : Type} {D : DataW H} (hD : IsMap D) (x n : Nat) (hx : x < n) (d : DataW H) : cntH (D.put (.int .i64 (x : Int)) d) n = if Maps.has D (.int .i64 (x : Int)) = true then cntH D n else cntH D n + 1 := by
  have key : ∀ i : Nat, Maps.has (D.put (.int .i64 (x : Int)) d) (.int .i64 (i : Int)) = (Maps.has D (.int .i64 (i : Int)) || (i == x)) := fun i => by
    by_cases e : i = x
    · subst e; rw [has_put_same hD (isKey _)]; simp
    · rw [has_put_other (key_ne (by omega)), show (i == x) = false from beq_eq_false_iff_ne.2 e, Bool.or_false]
  have gen : ∀ n, cntH (D.put (.int .i64 (x : Int)) d) n = cntH D n + (if x < n ∧ Maps.has D (.int .i64 (x : Int)) = false then 1 else 0) := fun n => by
    induction n with
    | zero => simp [cntH]
    | succ n ih =>
      unfold cntH at ih ⊢
      rw [List.range_succ, List.countP_append, List.countP_append, ih]
      simp only [List.countP_singleton, key]
      by_cases e : n = x
      · subst e
        cases c : Maps.has D (.int .i64 (n : Int)) <;> simp
      · rw [show (n == x) = false from beq_eq_false_iff_ne.2 e, Bool.or_false]
        by_cases c : x < n
        · simp only [c, show x < n + 1 by omega, true_and]
          omega
        · simp only [c, show ¬ x < n + 1 by omega, false_and, if_false]
          omega
  rw [gen n]
  cases c : Maps.has D (.int .i64 (x : Int)) <;> simp [hx]
section
variable {W : World} {m n : Nat} {wet : List Bool} {old : By} {D : Dp}
theorem ow_put (h : OW W m wet old n D) (hl : wet.length ≤ 4096) (i : Nat) (hi : i < wet.length) (v : Array Value) (hv : v = (enc (sec old i)).toArray) :
    ∃ W' n' D', (Instr.mapUpdate 53 (.map (some m)) (.int .i64 (i : Int)) (.agg v)).run Tryd.prog W = .ok () W' ∧ OW W' m (wet.set i true) old n' D' ∧ n' ≤ 4096 ∧ W.mapTurned W' m := by
  have hn : Maps.size D ≤ 4096 := by rw [h.sz]; exact Nat.le_trans (cntH_le _ _) hl
  obtain ⟨W', hrun, hown, htn⟩ := (own_tight h.own).store law3 um (by unfold maxLen; omega) (keyOf_int_mk u3 (wf64 i (by omega))) (show pElem (.agg v) = some (.held (.agg v), []) from rfl)
  have hm := h.own.isMap
  have hsz := (size_put (h.own.tidy law3) (k := .int .i64 (i : Int)) (.held (.agg v))).trans ((by rw [h.sz] : _ = _).trans (cntH_put hm i _ hi (.held (.agg v))).symm)
  obtain ⟨es, hes, hk⟩ := h.keys
  have hsz2 : Maps.size (D.put (.int .i64 (i : Int)) (.held (.agg v))) ≤ 4096 := by rw [hsz]; exact Nat.le_trans (cntH_le _ _) hl
  refine ⟨W', _, _, hrun, ⟨own_tight hown, fun j hj hx => ?_, fun j hj hx => ?_, fun j hj => ?_, ?_, by rw [List.length_set]; exact hsz⟩, hsz2, htn⟩
  · rw [List.length_set] at hj
    rw [set_getD _ _ _ _ _ hi] at hx
    split at hx
    · cases hx
    · next e => rw [has_put_other (key_ne (by omega))]; exact h.not_ j hj hx
  · rw [List.length_set] at hj
    rw [set_getD _ _ _ _ _ hi] at hx
    split at hx
    · next e =>
      subst e
      exact ⟨has_put_same hm (isKey _) _, fun z => by rw [atKey_put_same hm (isKey _), hv]⟩
    · next e =>
      rw [has_put_other (key_ne (by omega))]
      exact ⟨(h.yes j hj hx).1, fun z => by rw [atKey_put_other (key_ne (by omega))]; exact (h.yes j hj hx).2 z⟩
  · rw [List.length_set]
    by_cases e : j = (i : Int)
    · omega
    · rw [has_put_other (key_ne e)] at hj
      exact h.dom j hj
  · subst hes
    refine ⟨_, rfl, fun p hp => ?_⟩
    rcases Go.ChangeMaps.mem_insert_iff.1 hp with rfl | hp
    · exact ⟨_, rfl⟩
    · exact hk p (List.mem_filter.1 hp).1
theorem sort_perm {a b : List Int} (h : a.Perm b) : (a.mergeSort fun x y => decide (x ≤ y)) = (b.mergeSort fun x y => decide (x ≤ y)) := by
  have s : ∀ l : List Int, (l.mergeSort fun x y => decide (x ≤ y)).Pairwise (fun x y => x ≤ y) := fun l => by
    have := List.pairwise_mergeSort (le := fun (x y : Int) => decide (x ≤ y)) (fun a b c h1 h2 => by simp only [decide_eq_true_eq] at *; omega) (fun a b => by simp only [Bool.or_eq_true, decide_eq_true_eq]; omega) l
    exact this.imp (fun h => of_decide_eq_true h)
  exact List.Perm.eq_of_pairwise (fun x y _ _ h1 h2 => by omega) (s a) (s b) ((List.mergeSort_perm _ _).trans (h.trans (List.mergeSort_perm _ _).symm))
def looseI (wet : List Bool) : List Int := (loose wet).map fun i : Nat => (i : Int)
theorem looseI_up (wet : List Bool) : (looseI wet).Pairwise (fun x y => x < y) := by
  unfold looseI loose
  rw [List.pairwise_map]
  exact (List.pairwise_lt_range.filter _).imp (fun h => by omega)
/-- the keys, in order -/
theorem keys_are (h : OW W m wet old n D) {ss : List Int} (hs : ss.Perm (intKeys D)) : (ss.mergeSort fun x y => decide (x ≤ y)) = looseI wet := by
  obtain ⟨es, rfl, hk⟩ := h.keys
  obtain ⟨es2, he, ht⟩ := h.own.tidy law3
  cases he
  have hup := looseI_up wet
  have hnd : (looseI wet).Nodup := hup.imp (fun h e => by omega)
  have hp := perm_intKeys ht hk hnd (fun x => by
    unfold looseI
    rw [List.mem_map]
    constructor
    · rintro ⟨i, hi, rfl⟩
      obtain ⟨h1, h2⟩ := loose_mem hi
      exact (h.yes i h1 h2).1
    · intro hx
      obtain ⟨h1, h2⟩ := h.dom x hx
      obtain ⟨i, rfl⟩ : ∃ i : Nat, x = (i : Int) := ⟨x.toNat, by omega⟩
      refine ⟨i, ?_, rfl⟩
      unfold loose
      rw [List.mem_filter, List.mem_range]
      refine ⟨by omega, ?_⟩
      cases c : wet.getD i false with
      | true => rfl
      | false => rw [h.not_ i (by omega) c] at hx; cases hx)
  rw [sort_perm (hs.trans hp.symm)]
  exact List.mergeSort_of_pairwise (hup.imp (fun h => decide_eq_true (by omega)))
end
/-- the bytes' row -/
def Row (W : World) (g cap : Nat) (b : By) : Prop := ∃ ext : List Value, W.heap[g]? = some (.cells (enc b ++ ext).toArray 5 (0, 0)) ∧ b.length + ext.length = cap
/-- a disk in memory -/
structure SR (W : World) (p g cap m : Nat) (s : D) : Prop where
  blk : W.heap[p]? = some (.cells #[.slice (some ⟨g, 0, none⟩) s.b.length cap, .map (some m), .int .i64 (s.acts : Int), .int .i64 s.fuse, .bool s.down] 55 (0, 0))
  row : Row W g cap s.b
  map : ∃ n D, OW W m s.wet s.old n D ∧ n ≤ 4096
  cap_ : cap ≤ 9223372036854775807
theorem Row.keep {W W' : World} {g cap : Nat} {b : By} (h : Row W g cap b) (hk : W'.heap[g]? = W.heap[g]?) : Row W' g cap b := by
  obtain ⟨ext, h1, h2⟩ := h
  exact ⟨ext, hk.trans h1, h2⟩
section
variable {W W' : World} {p g cap m : Nat} {s : D}
theorem SR.lt (h : SR W p g cap m s) : p < W.heap.size ∧ g < W.heap.size ∧ m < W.heap.size := by
  obtain ⟨n, D, hm, _⟩ := h.map
  obtain ⟨ext, hr, _⟩ := h.row
  exact ⟨blk_lt h.blk, blk_lt hr, hm.own.lt⟩
theorem SR.ne (h : SR W p g cap m s) : p ≠ g ∧ p ≠ m ∧ g ≠ m := by
  obtain ⟨n, D, hm, _⟩ := h.map
  obtain ⟨ext, hr, _⟩ := h.row
  obtain ⟨es, cl, hk⟩ := own_kind hm.own
  refine ⟨fun e => ?_, fun e => ?_, fun e => ?_⟩
  · subst e; rw [h.blk] at hr; simp at hr
  · subst e; rw [h.blk] at hk; cases hk
  · subst e; rw [hr] at hk; cases hk
theorem SR.keep (h : SR W p g cap m s) (hp : W'.heap[p]? = W.heap[p]?) (hg : W'.heap[g]? = W.heap[g]?) (hm : W'.heap[m]? = W.heap[m]?) : SR W' p g cap m s := by
  obtain ⟨n, D, h1, h2⟩ := h.map
  exact ⟨hp.trans h.blk, h.row.keep hg, ⟨n, D, h1.keep hm, h2⟩, h.cap_⟩
theorem SR.below (h : SR W p g cap m s) (hb : Below W.heap.size W W') : SR W' p g cap m s := h.keep (hb.block _ h.lt.1) (hb.block _ h.lt.2.1) (hb.block _ h.lt.2.2)
end
/-- what a call may change: the disk's own three blocks -/
structure Fr (w w' : World) (p g m : Nat) : Prop where
  size : w.heap.size ≤ w'.heap.size
  block : ∀ k, k < w.heap.size → k ≠ p → k ≠ g → k ≠ m → w'.heap[k]? = w.heap[k]?
  os : w'.os = w.os
  tape : w'.tape = w.tape
  output : w'.output = w.output
section
variable {w w1 w2 W : World} {p g m : Nat}
theorem Fr.refl (w : World) (p g m : Nat) : Fr w w p g m := ⟨Nat.le_refl _, fun _ _ _ _ _ => rfl, rfl, rfl, rfl⟩
theorem Fr.trans (h : Fr w w1 p g m) (k : Fr w1 w2 p g m) : Fr w w2 p g m := ⟨Nat.le_trans h.size k.size, fun i hi h1 h2 h3 => (k.block i (Nat.lt_of_lt_of_le hi h.size) h1 h2 h3).trans (h.block i hi h1 h2 h3), k.os.trans h.os, k.tape.trans h.tape, k.output.trans h.output⟩
theorem Fr.of_below (h : Below w.heap.size w w1) : Fr w w1 p g m := ⟨h.size, fun k hk _ _ _ => h.block k hk, h.os, h.tape, h.output⟩
theorem Fr.below (h : Fr w w1 p g m) (hb : Below w1.heap.size w1 w2) : Fr w w2 p g m := h.trans (Fr.of_below hb)
theorem Fr.set (h : Fr w w1 p g m) (a : Addr) (ha : a.block = p ∨ a.block = g) (u : Value) : Fr w (w1.setCell a u) p g m :=
  ⟨by rw [World.size_setCell]; exact h.size, fun k hk h1 h2 h3 => (Below.heap_setCell w1 a u k (fun e => by rcases ha with e2 | e2 <;> rw [e2] at e <;> contradiction)).trans (h.block k hk h1 h2 h3), h.os, h.tape, h.output⟩
theorem Fr.turned (h : w.mapTurned w1 m) : Fr w w1 p g m := by
  have hg := h.grown
  exact ⟨hg.size, fun k hk _ _ h3 => hg.block k hk (fun e => by cases e; exact h3 rfl), hg.os, hg.tape, hg.output⟩
theorem Fr.to_below {B : Nat} (h : Fr w w1 p g m) (hp : B ≤ p) (hg : B ≤ g) (hm : B ≤ m) (hB : B ≤ w.heap.size) : Below B w w1 := ⟨h.os, h.tape, h.output, h.size, fun k hk => h.block k (by omega) (by omega) (by omega) (by omega)⟩
end
end Go.Proofs.YtnobhjpobnmiaaaDoor.Sk
