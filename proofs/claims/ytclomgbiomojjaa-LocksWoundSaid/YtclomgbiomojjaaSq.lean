/- Steps of a region's walk, in short: what the printed texts spell out at each operation. -/
import Derived.Test.YtclomgbiomojjaaWLast
import Derived.Test.YtclomgbiomojjaaWTab
import Derived.WalkKit
namespace Go.Proofs.YtclomgbiomojjaaW.PrintLast
open Go Go.RowKit Go.Proofs.YtclomgbiomojjaaW.PrintWords
theorem am_ {p : Prop} (h : p) : Aside0 p := ⟨h⟩
def trL : Nat → Nat → List Bool
  | 0, _ => []
  | n + 1, 0 => false :: trL n 0
  | n + 1, k + 1 => true :: trL n k
/-- the first k of n are done -/
abbrev trr (n k : Nat) : Array Bool := (trL n k).toArray
section
variable {P : Program} {ops : Array Oper} {Q : Exit → Act → World → Prop} {md : Region.Mode} {S : World → Prop} {ds : List Nat} {T : Bool × List (List Nat × List Nat)}
/-- an operation that is run -/
theorem pA_ (i N : Nat) {oi : Oper} {v : Value} {fuel : Nat} {l : Array Bool} {a : Act} {w : World} (l' : Array Bool) (hT : rtab md ops = T) {a' : Act} (h : wpAnyLast P md ops Q S ds fuel l' a' w)
    (hi : ops[i]? = some oi := by rfl) (hN : oi.dst = some N := by rfl) (hk : anyT T l.toList l'.toList i = true := by kernel_rfl) (hQ : ∀ c a w, Q (.panic c) (a.put oi.dst v) w → Q (.panic c) a w := by exact fun _ _ _ h => h)
    (hw : Region.wanted oi (yielded ops a.tmps) = true := by rfl) (hv : ∀ w' : World, (execOp a.eval oi).run P w' = .ok (.value v) w' := by intro w'; go_simp; with_reducible rfl)
    (ha : a.put (some N) v = a' := by simp only [Act.put, List.setIfInBounds_toArray, List.set_cons_zero, List.set_cons_succ, i64_w, i32_w]; rfl) : wpAnyLast P md ops Q S ds (fuel + 1) l a w :=
  pure_ l' hi hN (any_of hT hk) hQ (.inl ⟨hw, hv⟩) ha h
/-- one that is not: its guard says no -/
theorem pU_ (i N : Nat) {oi : Oper} {fuel : Nat} {l : Array Bool} {a : Act} {w : World} (l' : Array Bool) (hT : rtab md ops = T) {a' : Act} (h : wpAnyLast P md ops Q S ds fuel l' a' w)
    (hi : ops[i]? = some oi := by rfl) (hN : oi.dst = some N := by rfl) (hk : anyT T l.toList l'.toList i = true := by kernel_rfl) (hQ : ∀ c a w, Q (.panic c) (a.put oi.dst undef) w → Q (.panic c) a w := by exact fun _ _ _ h => h)
    (hw : Region.wanted oi (yielded ops a.tmps) = false := by rfl)
    (ha : a.put (some N) undef = a' := by simp only [Act.put, List.setIfInBounds_toArray, List.set_cons_zero, List.set_cons_succ, i64_w, i32_w]; rfl) : wpAnyLast P md ops Q S ds (fuel + 1) l a w :=
  pure_ l' hi hN (any_of hT hk) hQ (.inr ⟨hw, rfl⟩) ha h
/-- a load that is run -/
theorem tA_ (i N : Nat) {oi : Oper} {v : Value} {fuel : Nat} {l : Array Bool} {a : Act} {w : World} {B : List Nat} (l' : Array Bool) (hT : rtab md ops = T) (hB : waitsOk T.2 B = true) (hS : S w) {a' : Act} (h : wpAnyLast P md ops Q S ds fuel l' a' w)
    (hi : ops[i]? = some oi := by rfl) (hN : oi.dst = some N := by rfl) (hk : takeW T B ds l.toList l'.toList i = true := by kernel_rfl) (hQ : ∀ c a w, Q (.panic c) (a.put oi.dst v) w → Q (.panic c) a w := by exact fun _ _ _ h => h)
    (hw : Region.wanted oi (yielded ops a.tmps) = true := by rfl) (hv : ∀ w' : World, S w' → (execOp a.eval oi).run P w' = .ok (.value v) w' := by intro w' hs_; (try dsimp only at hs_); go_simp; with_reducible rfl)
    (ha : a.put (some N) v = a' := by simp only [Act.put, List.setIfInBounds_toArray, List.set_cons_zero, List.set_cons_succ, i64_w, i32_w]; rfl) : wpAnyLast P md ops Q S ds (fuel + 1) l a w :=
  take_ l' hi hN (take_ofW hT hB hk) hQ (.inl ⟨hw, hv⟩) hS ha h
/-- a block is kept -/
theorem kB {w w' : World} {g : Nat} {o : Obj} (h : Aside0 (w.heap[g]? = some o)) (h' : w.heap[g]? = some o → w'.heap[g]? = some o := by intro hk; (with_reducible repeat (first | refine blk_drewN ?_ _ | refine blk_drew ?_ | refine blk_alloc ?_ _)); exact hk) : w'.heap[g]? = some o := h' h.out
/-- what was there is as it was -/
theorem kZ {w0 w w' : World} (h : Aside0 (Below w0.heap.size w0 w)) (h' : Below w0.heap.size w0 w → Below w0.heap.size w0 w' := by intro hk; repeat (first | (with_reducible first | exact hk | apply below_alloc | apply pw_below_drewN | apply below_drew1 | refine below_set ?_ (Aside0.out (by assumption))) | exact hk)) : Below w0.heap.size w0 w' := h' h.out
/-- a row is kept -/
theorem kR {α : Type} {d : Kd α} {e base : Nat} {ok : Nat → Prop} {w w' : World} {v : Value} {xs : List α} (h : Aside0 (d.R e w base ok v xs)) (h' : d.R e w base ok v xs → d.R e w' base ok v xs := by intro hk; (with_reducible repeat (first | apply Kd.R_alloc | apply Kd.R_drewN | apply Kd.R_drew)); exact hk) : d.R e w' base ok v xs := h' h.out
theorem kC {α : Type} {d : Kd α} {w w' : World} {A : Option Addr} {n : Nat} {xs : List α} (h : d.C w A n xs) (h' : d.C w A n xs → d.C w' A n xs := by intro hk; repeat (first | exact hk | (with_reducible refine Kd.C_alloc ?_ _) | (with_reducible refine Kd.C_drewN ?_ _) | (with_reducible refine Kd.C_drew ?_))) : d.C w' A n xs := h' h
/-- a call in a plain region -/
theorem gL {rest : List Oper} {oi : Oper} {a : Act} {w : World} (N : Option Tmp) {f : FuncId} {fn : Func} {as : Array Operand} {ts : Array TypeId} (hf : P.funcs[f]? = some fn) (args : Array Value) (hd : oi.dst = N) (hop : oi.op = .call { callee := .value (.func f), args := as, argTypes := ts })
    (h : Calls P f args w fun e w' => ∃ v, e = .returned v ∧ wpList P ops Q rest (a.put N v) w') (hg : oi.guard = none := by rfl) (hname : (fn.name == "runtime.NumGoroutine") = false := by kernel_rfl) (hb : fn.body.isSome = true := by rfl)
    (hargs : as.map a.eval = args := by (try simp only [List.map_toArray, List.map_cons, List.map_nil]); first | done | rfl | (simp only [List.length_drop, List.length_take]; rfl)) : wpList P ops Q (oi :: rest) a w :=
  goesL_ N hd hg hf hname hb args hop hargs h
/-- what has an answer by itself -/
theorem od_ {p : Prop} [Decidable p] (h : decide p = true := by first | (with_reducible assumption) | assumption) : p := of_decide_eq_true h
theorem e1_ {p : Prop} (h : p := by first | rfl | (simp; done) | (simp [*]; done)) : p := h
theorem e2_ {p : Prop} (h : p := by first | rfl | (simp [errW_none, errW_some] <;> rfl) | (simp [*, errW_none, errW_some] <;> rfl)) : p := h
theorem nl_ {p : Prop} (h : p := by first | exact Kd.R_nil _ _ _ _ _ | exact Kd.N_nil _ _ _ _ _ | exact Kd.V_nil _ _ _ _ _ | exact Kd.Q_nil _ _ _ _ _ | exact Kd.S_nil _ _ _ _ _) : p := h
theorem dr_ {p : Prop} (h : p := by repeat (first | exact Drawn0.refl _ | apply Drawn0.step)) : p := h
theorem m_ {p : Prop} (h : p := by (try simp only [List.map_toArray, List.map_cons, List.map_nil]); first | done | rfl | (simp only [List.length_drop, List.length_take]; rfl)) : p := h
/-- back to the world ahead of draws and events -/
theorem kD {A B : Prop} (h : A) (h' : A → B := by intro hk; (with_reducible repeat (first | refine blk_drewN ?_ _ | refine blk_drew ?_ | refine blk_alloc ?_ _)); exact hk) : B := h' h
theorem kE {A B : Prop} (h : A) (h' : A → B := by intro hk; (with_reducible repeat (first | apply Kd.R_alloc | apply Kd.R_drewN | apply Kd.R_drew)); exact hk) : B := h' h
theorem gW {w W : World} {g : Nat} (hg : g = W.heap.size) (h : Below w.heap.size w W) : w.heap.size ≤ g := hg ▸ below_size h
theorem gN {W : World} {b g : Nat} {o : Obj} (hg : g = W.heap.size) (h : W.heap[b]? = some o) : b ≠ g := by rw [hg]; exact Nat.ne_of_lt (blk_lt h)
theorem gM {W : World} {b g : Nat} {o : Obj} (hg : g = W.heap.size) (h : W.heap[b]? = some o) : g ≠ b := by rw [hg]; exact Nat.ne_of_gt (blk_lt h)
end
end Go.Proofs.YtclomgbiomojjaaW.PrintLast
