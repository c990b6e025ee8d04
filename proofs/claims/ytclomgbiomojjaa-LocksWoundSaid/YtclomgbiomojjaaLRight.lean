/- The walk of locks.Right: the ages of the transactions in a map of the call's own. -/
import Derived.Test.YtclomgbiomojjaaSq
import Derived.Test.YtclomgbiomojjaaQx2
import Derived.Maps.OwnSet
import Derived.WalkLawsBesides
import Derived.Carry
namespace Go.Proofs.Ytclomgbiomojjaa.LRight
open Go Go.RowKit Go.Maps Go.Proofs.Ytclomgbiomojjaa.Q Go.Proofs.YtclomgbiomojjaaW.PrintWords Go.Proofs.YtclomgbiomojjaaW.PrintLast Go.Proofs.YtclomgbiomojjaaW.PrintMore
set_option linter.unusedVariables false
set_option linter.unusedSimpArgs false
set_option linter.unnecessarySimpa false

theorem u2 : Try.prog.underlying 2 = some (.int .i64) := by kernel_rfl
theorem u68 : Try.prog.underlying 68 = some (.map 2 2) := by kernel_rfl
theorem law2 : Keyed Try.prog 2 := int_keyed u2
theorem zero2 (w : World) : (zeroValue 2).run Try.prog w = .ok (.int .i64 0) w := by kernel_rfl
/-- the map's datum: a ghost of the proof -/
abbrev Dm := DataW Unit
def cOf (D : Dm) (t : Int) : Int := match D.atKey (.int .i64 t) (.lit (.int .i64 0)) with | .lit (.int _ c) => c | _ => 0
def lookD (D : Dm) (t : Int) : Option (Int × Bool) := some (cOf D t, Maps.has D (.int .i64 t))
def putD (D : Dm) (x : S34) : Dm := D.put (.int .i64 x.f1) (.lit (.int .i64 x.f2))
abbrev OM (w : World) (B n : Nat) (D : Dm) : Prop := w.ownsMap Try.prog 2 (plainElem Try.prog 2) B n D
def wfB (x : S34) : Bool := (Lit.int .i64 x.f1).wf && (Lit.int .i64 x.f2).wf
theorem wf1 {l : List S34} (h : l.all wfB = true) (x : Int) : (Lit.int .i64 (rd_T34 l x).f1).wf = true := by
  unfold rd_T34
  rw [List.getD_eq_getElem?_getD]
  cases e : l[x.toNat]? with
  | none => rfl
  | some y => have := List.all_eq_true.1 h y (List.mem_of_getElem? e); simp only [wfB, Bool.and_eq_true] at this; simpa [e] using this.1
theorem wf2 {l : List S34} (h : l.all wfB = true) (x : Int) : (Lit.int .i64 (rd_T34 l x).f2).wf = true := by
  unfold rd_T34
  rw [List.getD_eq_getElem?_getD]
  cases e : l[x.toNat]? with
  | none => rfl
  | some y => have := List.all_eq_true.1 h y (List.mem_of_getElem? e); simp only [wfB, Bool.and_eq_true] at this; simpa [e] using this.2
theorem om_below {w W : World} {B n : Nat} {D : Dm} (h : OM w B n D) (hb : Below w.heap.size w W) : OM W B n D := by
  have hlt := h.lt
  obtain ⟨es, clock, h0, F, hs, hD⟩ := h
  exact ⟨es, clock, (hb.block _ hlt).trans h0, F, hs, hD⟩
theorem rebase {w W : World} {n : Nat} (h : Aside0 (Below n w W)) : Aside0 (Below W.heap.size W W) := ⟨Below.refl _ _⟩
section
variable {ops : Array Oper} {rest : List Oper} {o : Oper} {a : Act} {Q : Exit → Act → World → Prop}
theorem look_step {W : World} (hg : o.guard = none) (m x : Operand) (hop : o.op = Op.lookup 68 m x true) {B n : Nat} {D : Dm} {t c : Int} {b : Bool} (hm : a.eval m = .map (some B)) (hown : OM W B n D)
    (hx : a.eval x = .int .i64 t) (hw : (Lit.int .i64 t).wf = true) (h5 : lookD D t = some (c, b)) (h : wpList Try.prog ops Q rest (a.put o.dst (.tuple #[.int .i64 c, .bool b])) W) : wpList Try.prog ops Q (o :: rest) a W := by
  refine wpList_lookup_own_ok_int W hg m x 68 hop 2 2 .i64 law2 u68 u2 (zero2 _) B n D hm hown _ _ hx (keyOf_int_mk u2 hw) ?_
  intro c' hat hwc
  unfold lookD cOf at h5
  rw [hat] at h5
  cases h5
  exact h
theorem upd_step {W : World} (hg : o.guard = none) (m x v : Operand) (hop : o.op = Op.mapUpdate 68 m x v) {B n : Nat} {D : Dm} {t c : Int} (hm : a.eval m = .map (some B)) (hown : OM W B n D) (hn : n < maxLen)
    (hx : a.eval x = .int .i64 t) (hv : a.eval v = .int .i64 c) (hw : (Lit.int .i64 t).wf = true) (hwc : (Lit.int .i64 c).wf = true)
    (h : ∀ w', OM w' B (n + 1) (D.put (.int .i64 t) (.lit (.int .i64 c))) → W.grownBy w' (some B) → wpList Try.prog ops Q rest (a.put o.dst undef) w') : wpList Try.prog ops Q (o :: rest) a W :=
  wpList_mapUpdate_own W hg m x v 68 hop 2 2 law2 u68 _ B n D hm hown hn _ _ _ hx hv (keyOf_int_mk u2 hw) _ [] (plainElem_int u2 hwc) h
end
theorem nb {l : List S34} {x : Int} (hl : l.length ≤ 1000000) (h : decide (x < (l.length : Int)) = true) : x.toNat < maxLen := by
  have := of_decide_eq_true h
  unfold maxLen
  omega
theorem om_next {w : World} {l : List S34} {x : Int} {B : Nat} {D : Dm} (hl : l.length ≤ 1000000) (h : decide (x < (l.length : Int)) = true) (h0 : decide (0 ≤ x) = true) (ho : OM w B (x.toNat + 1) D) : OM w B (wrap64 (x + 1)).toNat D := by
  have h1 := of_decide_eq_true h
  have h2 := of_decide_eq_true h0
  have e : wrap64 (x + 1) = x + 1 := by unfold wrap64; omega
  rw [e]
  exact ho.mono (by omega)
theorem below_put {w wr W w9 : World} (h0 : Below w.heap.size w wr) (h1 : Below wr.heap.size wr W) (hg : W.grownBy w9 (some w.heap.size)) : Below w.heap.size w w9 :=
  (below_step h0 h1).grown hg (below_step h0 h1).size (fun j hj => by cases hj; exact Nat.le_refl _)
abbrev x2tr40_0 : Array Bool := #[false, false, false, false, false, false, false, false, false, false, false, false, false, false, false, false, false, false, false, false, false, false, false, false, false, false, false, false, false, false, false, false, false, false, false, false, false, false, false, false]
abbrev x2tr40_1 : Array Bool := #[true, false, false, false, false, false, false, false, false, false, false, false, false, false, false, false, false, false, false, false, false, false, false, false, false, false, false, false, false, false, false, false, false, false, false, false, false, false, false, false]
abbrev x2tr40_10 : Array Bool := #[true, true, true, true, true, true, true, true, true, true, false, false, false, false, false, false, false, false, false, false, false, false, false, false, false, false, false, false, false, false, false, false, false, false, false, false, false, false, false, false]
abbrev x2tr40_11 : Array Bool := #[true, true, true, true, true, true, true, true, true, true, true, false, false, false, false, false, false, false, false, false, false, false, false, false, false, false, false, false, false, false, false, false, false, false, false, false, false, false, false, false]
abbrev x2tr40_12 : Array Bool := #[true, true, true, true, true, true, true, true, true, true, true, true, false, false, false, false, false, false, false, false, false, false, false, false, false, false, false, false, false, false, false, false, false, false, false, false, false, false, false, false]
abbrev x2tr40_13 : Array Bool := #[true, true, true, true, true, true, true, true, true, true, true, true, true, false, false, false, false, false, false, false, false, false, false, false, false, false, false, false, false, false, false, false, false, false, false, false, false, false, false, false]
abbrev x2tr40_14 : Array Bool := #[true, true, true, true, true, true, true, true, true, true, true, true, true, true, false, false, false, false, false, false, false, false, false, false, false, false, false, false, false, false, false, false, false, false, false, false, false, false, false, false]
abbrev x2tr40_15 : Array Bool := #[true, true, true, true, true, true, true, true, true, true, true, true, true, true, true, false, false, false, false, false, false, false, false, false, false, false, false, false, false, false, false, false, false, false, false, false, false, false, false, false]
abbrev x2tr40_16 : Array Bool := #[true, true, true, true, true, true, true, true, true, true, true, true, true, true, true, true, false, false, false, false, false, false, false, false, false, false, false, false, false, false, false, false, false, false, false, false, false, false, false, false]
abbrev x2tr40_17 : Array Bool := #[true, true, true, true, true, true, true, true, true, true, true, true, true, true, true, true, true, false, false, false, false, false, false, false, false, false, false, false, false, false, false, false, false, false, false, false, false, false, false, false]
abbrev x2tr40_18 : Array Bool := #[true, true, true, true, true, true, true, true, true, true, true, true, true, true, true, true, true, true, false, false, false, false, false, false, false, false, false, false, false, false, false, false, false, false, false, false, false, false, false, false]
abbrev x2tr40_19 : Array Bool := #[true, true, true, true, true, true, true, true, true, true, true, true, true, true, true, true, true, true, true, false, false, false, false, false, false, false, false, false, false, false, false, false, false, false, false, false, false, false, false, false]
abbrev x2tr40_2 : Array Bool := #[true, true, false, false, false, false, false, false, false, false, false, false, false, false, false, false, false, false, false, false, false, false, false, false, false, false, false, false, false, false, false, false, false, false, false, false, false, false, false, false]
abbrev x2tr40_20 : Array Bool := #[true, true, true, true, true, true, true, true, true, true, true, true, true, true, true, true, true, true, true, true, false, false, false, false, false, false, false, false, false, false, false, false, false, false, false, false, false, false, false, false]
abbrev x2tr40_21 : Array Bool := #[true, true, true, true, true, true, true, true, true, true, true, true, true, true, true, true, true, true, true, true, true, false, false, false, false, false, false, false, false, false, false, false, false, false, false, false, false, false, false, false]
abbrev x2tr40_22 : Array Bool := #[true, true, true, true, true, true, true, true, true, true, true, true, true, true, true, true, true, true, true, true, true, true, false, false, false, false, false, false, false, false, false, false, false, false, false, false, false, false, false, false]
abbrev x2tr40_23 : Array Bool := #[true, true, true, true, true, true, true, true, true, true, true, true, true, true, true, true, true, true, true, true, true, true, true, false, false, false, false, false, false, false, false, false, false, false, false, false, false, false, false, false]
abbrev x2tr40_24 : Array Bool := #[true, true, true, true, true, true, true, true, true, true, true, true, true, true, true, true, true, true, true, true, true, true, true, true, false, false, false, false, false, false, false, false, false, false, false, false, false, false, false, false]
abbrev x2tr40_25 : Array Bool := #[true, true, true, true, true, true, true, true, true, true, true, true, true, true, true, true, true, true, true, true, true, true, true, true, true, false, false, false, false, false, false, false, false, false, false, false, false, false, false, false]
abbrev x2tr40_26 : Array Bool := #[true, true, true, true, true, true, true, true, true, true, true, true, true, true, true, true, true, true, true, true, true, true, true, true, true, true, false, false, false, false, false, false, false, false, false, false, false, false, false, false]
abbrev x2tr40_27 : Array Bool := #[true, true, true, true, true, true, true, true, true, true, true, true, true, true, true, true, true, true, true, true, true, true, true, true, true, true, true, false, false, false, false, false, false, false, false, false, false, false, false, false]
abbrev x2tr40_28 : Array Bool := #[true, true, true, true, true, true, true, true, true, true, true, true, true, true, true, true, true, true, true, true, true, true, true, true, true, true, true, true, false, false, false, false, false, false, false, false, false, false, false, false]
abbrev x2tr40_29 : Array Bool := #[true, true, true, true, true, true, true, true, true, true, true, true, true, true, true, true, true, true, true, true, true, true, true, true, true, true, true, true, true, false, false, false, false, false, false, false, false, false, false, false]
abbrev x2tr40_3 : Array Bool := #[true, true, true, false, false, false, false, false, false, false, false, false, false, false, false, false, false, false, false, false, false, false, false, false, false, false, false, false, false, false, false, false, false, false, false, false, false, false, false, false]
abbrev x2tr40_30 : Array Bool := #[true, true, true, true, true, true, true, true, true, true, true, true, true, true, true, true, true, true, true, true, true, true, true, true, true, true, true, true, true, true, false, false, false, false, false, false, false, false, false, false]
abbrev x2tr40_31 : Array Bool := #[true, true, true, true, true, true, true, true, true, true, true, true, true, true, true, true, true, true, true, true, true, true, true, true, true, true, true, true, true, true, true, false, false, false, false, false, false, false, false, false]
abbrev x2tr40_32 : Array Bool := #[true, true, true, true, true, true, true, true, true, true, true, true, true, true, true, true, true, true, true, true, true, true, true, true, true, true, true, true, true, true, true, true, false, false, false, false, false, false, false, false]
abbrev x2tr40_33 : Array Bool := #[true, true, true, true, true, true, true, true, true, true, true, true, true, true, true, true, true, true, true, true, true, true, true, true, true, true, true, true, true, true, true, true, true, false, false, false, false, false, false, false]
abbrev x2tr40_34 : Array Bool := #[true, true, true, true, true, true, true, true, true, true, true, true, true, true, true, true, true, true, true, true, true, true, true, true, true, true, true, true, true, true, true, true, true, true, false, false, false, false, false, false]
abbrev x2tr40_35 : Array Bool := #[true, true, true, true, true, true, true, true, true, true, true, true, true, true, true, true, true, true, true, true, true, true, true, true, true, true, true, true, true, true, true, true, true, true, true, false, false, false, false, false]
abbrev x2tr40_36 : Array Bool := #[true, true, true, true, true, true, true, true, true, true, true, true, true, true, true, true, true, true, true, true, true, true, true, true, true, true, true, true, true, true, true, true, true, true, true, true, false, false, false, false]
abbrev x2tr40_37 : Array Bool := #[true, true, true, true, true, true, true, true, true, true, true, true, true, true, true, true, true, true, true, true, true, true, true, true, true, true, true, true, true, true, true, true, true, true, true, true, true, false, false, false]
abbrev x2tr40_38 : Array Bool := #[true, true, true, true, true, true, true, true, true, true, true, true, true, true, true, true, true, true, true, true, true, true, true, true, true, true, true, true, true, true, true, true, true, true, true, true, true, true, false, false]
abbrev x2tr40_39 : Array Bool := #[true, true, true, true, true, true, true, true, true, true, true, true, true, true, true, true, true, true, true, true, true, true, true, true, true, true, true, true, true, true, true, true, true, true, true, true, true, true, true, false]
abbrev x2tr40_4 : Array Bool := #[true, true, true, true, false, false, false, false, false, false, false, false, false, false, false, false, false, false, false, false, false, false, false, false, false, false, false, false, false, false, false, false, false, false, false, false, false, false, false, false]
abbrev x2tr40_40 : Array Bool := #[true, true, true, true, true, true, true, true, true, true, true, true, true, true, true, true, true, true, true, true, true, true, true, true, true, true, true, true, true, true, true, true, true, true, true, true, true, true, true, true]
abbrev x2tr40_5 : Array Bool := #[true, true, true, true, true, false, false, false, false, false, false, false, false, false, false, false, false, false, false, false, false, false, false, false, false, false, false, false, false, false, false, false, false, false, false, false, false, false, false, false]
abbrev x2tr40_6 : Array Bool := #[true, true, true, true, true, true, false, false, false, false, false, false, false, false, false, false, false, false, false, false, false, false, false, false, false, false, false, false, false, false, false, false, false, false, false, false, false, false, false, false]
abbrev x2tr40_7 : Array Bool := #[true, true, true, true, true, true, true, false, false, false, false, false, false, false, false, false, false, false, false, false, false, false, false, false, false, false, false, false, false, false, false, false, false, false, false, false, false, false, false, false]
abbrev x2tr40_8 : Array Bool := #[true, true, true, true, true, true, true, true, false, false, false, false, false, false, false, false, false, false, false, false, false, false, false, false, false, false, false, false, false, false, false, false, false, false, false, false, false, false, false, false]
abbrev x2tr40_9 : Array Bool := #[true, true, true, true, true, true, true, true, true, false, false, false, false, false, false, false, false, false, false, false, false, false, false, false, false, false, false, false, false, false, false, false, false, false, false, false, false, false, false, false]
abbrev x2tr40_m1111111111111111111111111111111111010000 : Array Bool := #[true, true, true, true, true, true, true, true, true, true, true, true, true, true, true, true, true, true, true, true, true, true, true, true, true, true, true, true, true, true, true, true, true, true, false, true, false, false, false, false]
/-! ### locks_Right: function 16 -/
def locks_Right.l0 : Nat → List (S34) → Dm → List (S34) → Int → Int → Option (Bool)
 | 0, _, _, _, _, _ => none
 | k + 1, x0, x3, x9, x10, x11 => if x11 < x10 then (if 0 ≤ x11 then (if x11 < (x9.length : Int) then ((lookD x3 ((rd_T34 x9 x11).f1)).bind fun bt107 => ((path_Right.f ((rd_T34 x9 x11).f0)).bind fun t109 => (if t109 = true then ((locks_number.f ((rd_T34 x9 x11).f1)).bind fun t110 => (if t110 = true then ((locks_number.f ((rd_T34 x9 x11).f2)).bind fun t111 => (if t111 = true then (if bt107.2 = true then (if bt107.1 = ((rd_T34 x9 x11).f2) then (if x11 > 0 then (if 0 ≤ (wrap64 (x11 - 1)) then (if (wrap64 (x11 - 1)) < (x0.length : Int) then (if ((Op.bytesLess (((rd_T34 x0 (wrap64 (x11 - 1))).f0).toList) (((rd_T34 x9 x11).f0).toList)) = true) then (locks_Right.l0 k x0 (putD x3 (rd_T34 x9 x11)) x9 x10 (wrap64 (x11 + 1))) else (some false)) else (none)) else (none)) else (locks_Right.l0 k x0 (putD x3 (rd_T34 x9 x11)) x9 x10 (wrap64 (x11 + 1)))) else (some false)) else (if x11 > 0 then (if 0 ≤ (wrap64 (x11 - 1)) then (if (wrap64 (x11 - 1)) < (x0.length : Int) then (if ((Op.bytesLess (((rd_T34 x0 (wrap64 (x11 - 1))).f0).toList) (((rd_T34 x9 x11).f0).toList)) = true) then (locks_Right.l0 k x0 (putD x3 (rd_T34 x9 x11)) x9 x10 (wrap64 (x11 + 1))) else (some false)) else (none)) else (none)) else (locks_Right.l0 k x0 (putD x3 (rd_T34 x9 x11)) x9 x10 (wrap64 (x11 + 1))))) else (some false))) else (some false))) else (some false)))) else (none)) else (none)) else (some true)

def locks_Right.T6 : Bool × List (List Nat × List Nat) := (true, [([], []), ([0], [0]), ([1], [1]), ([2], [2]), ([3, 2], [3]), ([4], [4]), ([5, 4], [4, 5]), ([6, 4, 4], [4, 6]), ([7, 4], [4, 7]), ([4, 8], [4, 8]), ([9, 7], [9]), ([10], [10]), ([11, 10], [10, 11]), ([12, 10, 10], [10, 12]), ([13, 10], [10, 13]), ([10, 14], [10, 14]), ([15, 13], [15]), ([16], [16]), ([17, 16, 16], [16, 17]), ([18], [18]), ([18], [18]), ([20, 18], [18, 20]), ([19, 21, 18], [18, 19, 21]), ([18, 22, 16], [16, 18, 22]), ([16, 23], [16, 23]), ([24, 18], [24]), ([25], [25]), ([26, 25], [25, 26]), ([27, 25, 25], [25, 27]), ([28], [28]), ([28], [28]), ([30, 28], [28, 30]), ([29, 31, 28], [28, 29, 31]), ([32, 28], [28, 32]), ([33, 28], [28, 33]), ([28], [28]), ([35, 28], [28, 35]), ([34, 36, 28], [28, 34, 36]), ([28, 37, 25], [25, 28, 37]), ([25, 38], [25, 38])])
def locks_Right.B6 : List Nat := [0, 1, 3, 7, 15, 31, 63, 127, 255, 511, 1023, 2047, 4095, 8191, 16383, 32767, 65535, 131071, 262143, 524287, 524287, 1572863, 4194303, 8388607, 16777215, 33554431, 67108863, 134217727, 268435455, 536870911, 536870911, 1610612735, 4294967295, 8589934591, 17179869183, 536870911, 34896609279, 137438953471, 274877906943, 549755813887]
theorem locks_Right.tab6 : rtab .any (opsOf Try.f16 6) = locks_Right.T6 := by kernel_rfl
theorem locks_Right.bits6 : waitsOk locks_Right.T6.2 locks_Right.B6 = true := by kernel_rfl
set_option maxHeartbeats 8000000 in
set_option maxRecDepth 100000 in
theorem locks_Right.calls (k : Nat) (A0 : Option Addr) (c0 : Nat) (l0 : List (S34)) (r : Bool) (w : World) (hr0 : Kd.C k34 w A0 l0.length l0) (hc0 : l0.length ≤ c0) (hl : l0.length ≤ 1000000) (hwf : l0.all wfB = true) (h : locks_Right.l0 k l0 (.map []) l0 (l0.length : Int) 0 = some r) :
  Calls Try.prog 16 #[.slice A0 l0.length c0] w fun e w' => e = .returned (.bool r) ∧ Below w.heap.size w w' := by
 have hu34 := Try.underlying34
 have HR0 := Aside0.mk hr0
 have HC0 := Aside0.mk hc0
 clear hr0 hc0
 have HB := Aside0.mk (Below.refl w.heap.size w)
 have HWF := Aside0.mk hwf
 have HL := Aside0.mk hl
 clear hwf hl
 have hmm := @run_makeMap Try.prog
 have H : (locks_Right.l0 k l0 (.map []) l0 (l0.length : Int) 0) = some r := h
 clear h
 have H' := Aside0.mk H
 clear H
 go_enter Try.func16, Try.ntmps16
 go_wp2
 go_loopg [11] k (fun kq v11 wr => ∃ (x11_1 : Int) (D_1 : Dm), v11 = .int .i64 x11_1 ∧ Aside0 (locks_Right.l0 kq l0 D_1 l0 (l0.length : Int) x11_1 = some r) ∧ Aside0 (kq ≤ k) ∧ Aside0 (Below w.heap.size w wr) ∧ Aside0 (OM wr w.heap.size x11_1.toNat D_1))
 case atStart => exact ⟨(0), .map [], (by first | rfl | (simp; done) | (simp [*]; done)), H', ⟨Nat.le_refl _⟩, ⟨kZ HB⟩, ⟨World.ownsMap_made _ _ _ _⟩⟩
 case round =>
  clear H'
  try clear c1
  obtain ⟨x11_1, D_1, rfl, HA, HK1, HB0, HM⟩ := hrel
  have hr0_ := Kd.C_below HR0.out HB0.out
  clear HR0
  have HR0 := Aside0.mk hr0_
  clear hr0_
  have HB := rebase HB0
  cases gk with
  | zero => exact absurd HA.out (by simp [locks_Right.l0])
  | succ k1 =>
   have H := HA.out
   clear HA
   simp only [locks_Right.l0] at H
   by_cases c2 : x11_1 < (l0.length : Int)
   ·rw [if_pos c2] at H
    have c2b0 : decide (x11_1 < (l0.length : Int)) = true := decide_eq_true c2
    clear c2
    by_cases c3 : 0 ≤ x11_1
    ·rw [if_pos c3] at H
     have c3b0 : decide (0 ≤ x11_1) = true := decide_eq_true c3
     clear c3
     by_cases c4 : x11_1 < (l0.length : Int)
     ·rw [if_pos c4] at H
      have c4b0 : decide (x11_1 < (l0.length : Int)) = true := decide_eq_true c4
      clear c4
      replace H := Option.bind_eq_some_iff.mp H
      obtain ⟨⟨t107, t108⟩, A50, H⟩ := H
      replace H : ((path_Right.f ((rd_T34 l0 x11_1).f0)).bind fun t109 => (if t109 = true then ((locks_number.f ((rd_T34 l0 x11_1).f1)).bind fun t110 => (if t110 = true then ((locks_number.f ((rd_T34 l0 x11_1).f2)).bind fun t111 => (if t111 = true then (if t108 = true then (if t107 = ((rd_T34 l0 x11_1).f2) then (if x11_1 > 0 then (if 0 ≤ (wrap64 (x11_1 - 1)) then (if (wrap64 (x11_1 - 1)) < (l0.length : Int) then (if ((Op.bytesLess (((rd_T34 l0 (wrap64 (x11_1 - 1))).f0).toList) (((rd_T34 l0 x11_1).f0).toList)) = true) then (locks_Right.l0 k1 l0 (putD D_1 (rd_T34 l0 x11_1)) l0 (l0.length : Int) (wrap64 (x11_1 + 1))) else (some false)) else (none)) else (none)) else (locks_Right.l0 k1 l0 (putD D_1 (rd_T34 l0 x11_1)) l0 (l0.length : Int) (wrap64 (x11_1 + 1)))) else (some false)) else (if x11_1 > 0 then (if 0 ≤ (wrap64 (x11_1 - 1)) then (if (wrap64 (x11_1 - 1)) < (l0.length : Int) then (if ((Op.bytesLess (((rd_T34 l0 (wrap64 (x11_1 - 1))).f0).toList) (((rd_T34 l0 x11_1).f0).toList)) = true) then (locks_Right.l0 k1 l0 (putD D_1 (rd_T34 l0 x11_1)) l0 (l0.length : Int) (wrap64 (x11_1 + 1))) else (some false)) else (none)) else (none)) else (locks_Right.l0 k1 l0 (putD D_1 (rd_T34 l0 x11_1)) l0 (l0.length : Int) (wrap64 (x11_1 + 1))))) else (some false))) else (some false))) else (some false))) = some r := H
      have A5 := Aside0.mk A50
      clear A50
      replace H := Option.bind_eq_some_iff.mp H
      obtain ⟨t109, A60, H⟩ := H
      replace H : (if t109 = true then ((locks_number.f ((rd_T34 l0 x11_1).f1)).bind fun t110 => (if t110 = true then ((locks_number.f ((rd_T34 l0 x11_1).f2)).bind fun t111 => (if t111 = true then (if t108 = true then (if t107 = ((rd_T34 l0 x11_1).f2) then (if x11_1 > 0 then (if 0 ≤ (wrap64 (x11_1 - 1)) then (if (wrap64 (x11_1 - 1)) < (l0.length : Int) then (if ((Op.bytesLess (((rd_T34 l0 (wrap64 (x11_1 - 1))).f0).toList) (((rd_T34 l0 x11_1).f0).toList)) = true) then (locks_Right.l0 k1 l0 (putD D_1 (rd_T34 l0 x11_1)) l0 (l0.length : Int) (wrap64 (x11_1 + 1))) else (some false)) else (none)) else (none)) else (locks_Right.l0 k1 l0 (putD D_1 (rd_T34 l0 x11_1)) l0 (l0.length : Int) (wrap64 (x11_1 + 1)))) else (some false)) else (if x11_1 > 0 then (if 0 ≤ (wrap64 (x11_1 - 1)) then (if (wrap64 (x11_1 - 1)) < (l0.length : Int) then (if ((Op.bytesLess (((rd_T34 l0 (wrap64 (x11_1 - 1))).f0).toList) (((rd_T34 l0 x11_1).f0).toList)) = true) then (locks_Right.l0 k1 l0 (putD D_1 (rd_T34 l0 x11_1)) l0 (l0.length : Int) (wrap64 (x11_1 + 1))) else (some false)) else (none)) else (none)) else (locks_Right.l0 k1 l0 (putD D_1 (rd_T34 l0 x11_1)) l0 (l0.length : Int) (wrap64 (x11_1 + 1))))) else (some false))) else (some false))) else (some false)) = some r := H
      have A6 := Aside0.mk A60
      clear A60
      by_cases c7 : t109 = true
      ·subst c7
       have H1 : ((locks_number.f ((rd_T34 l0 x11_1).f1)).bind fun t110 => (if t110 = true then ((locks_number.f ((rd_T34 l0 x11_1).f2)).bind fun t111 => (if t111 = true then (if t108 = true then (if t107 = ((rd_T34 l0 x11_1).f2) then (if x11_1 > 0 then (if 0 ≤ (wrap64 (x11_1 - 1)) then (if (wrap64 (x11_1 - 1)) < (l0.length : Int) then (if ((Op.bytesLess (((rd_T34 l0 (wrap64 (x11_1 - 1))).f0).toList) (((rd_T34 l0 x11_1).f0).toList)) = true) then (locks_Right.l0 k1 l0 (putD D_1 (rd_T34 l0 x11_1)) l0 (l0.length : Int) (wrap64 (x11_1 + 1))) else (some false)) else (none)) else (none)) else (locks_Right.l0 k1 l0 (putD D_1 (rd_T34 l0 x11_1)) l0 (l0.length : Int) (wrap64 (x11_1 + 1)))) else (some false)) else (if x11_1 > 0 then (if 0 ≤ (wrap64 (x11_1 - 1)) then (if (wrap64 (x11_1 - 1)) < (l0.length : Int) then (if ((Op.bytesLess (((rd_T34 l0 (wrap64 (x11_1 - 1))).f0).toList) (((rd_T34 l0 x11_1).f0).toList)) = true) then (locks_Right.l0 k1 l0 (putD D_1 (rd_T34 l0 x11_1)) l0 (l0.length : Int) (wrap64 (x11_1 + 1))) else (some false)) else (none)) else (none)) else (locks_Right.l0 k1 l0 (putD D_1 (rd_T34 l0 x11_1)) l0 (l0.length : Int) (wrap64 (x11_1 + 1))))) else (some false))) else (some false))) = some r := by rw [if_pos rfl] at H; exact H
       clear H
       have H := H1
       clear H1
       replace H := Option.bind_eq_some_iff.mp H
       obtain ⟨t110, A80, H⟩ := H
       replace H : (if t110 = true then ((locks_number.f ((rd_T34 l0 x11_1).f2)).bind fun t111 => (if t111 = true then (if t108 = true then (if t107 = ((rd_T34 l0 x11_1).f2) then (if x11_1 > 0 then (if 0 ≤ (wrap64 (x11_1 - 1)) then (if (wrap64 (x11_1 - 1)) < (l0.length : Int) then (if ((Op.bytesLess (((rd_T34 l0 (wrap64 (x11_1 - 1))).f0).toList) (((rd_T34 l0 x11_1).f0).toList)) = true) then (locks_Right.l0 k1 l0 (putD D_1 (rd_T34 l0 x11_1)) l0 (l0.length : Int) (wrap64 (x11_1 + 1))) else (some false)) else (none)) else (none)) else (locks_Right.l0 k1 l0 (putD D_1 (rd_T34 l0 x11_1)) l0 (l0.length : Int) (wrap64 (x11_1 + 1)))) else (some false)) else (if x11_1 > 0 then (if 0 ≤ (wrap64 (x11_1 - 1)) then (if (wrap64 (x11_1 - 1)) < (l0.length : Int) then (if ((Op.bytesLess (((rd_T34 l0 (wrap64 (x11_1 - 1))).f0).toList) (((rd_T34 l0 x11_1).f0).toList)) = true) then (locks_Right.l0 k1 l0 (putD D_1 (rd_T34 l0 x11_1)) l0 (l0.length : Int) (wrap64 (x11_1 + 1))) else (some false)) else (none)) else (none)) else (locks_Right.l0 k1 l0 (putD D_1 (rd_T34 l0 x11_1)) l0 (l0.length : Int) (wrap64 (x11_1 + 1))))) else (some false))) else (some false)) = some r := H
       have A8 := Aside0.mk A80
       clear A80
       by_cases c9 : t110 = true
       ·subst c9
        have H1 : ((locks_number.f ((rd_T34 l0 x11_1).f2)).bind fun t111 => (if t111 = true then (if t108 = true then (if t107 = ((rd_T34 l0 x11_1).f2) then (if x11_1 > 0 then (if 0 ≤ (wrap64 (x11_1 - 1)) then (if (wrap64 (x11_1 - 1)) < (l0.length : Int) then (if ((Op.bytesLess (((rd_T34 l0 (wrap64 (x11_1 - 1))).f0).toList) (((rd_T34 l0 x11_1).f0).toList)) = true) then (locks_Right.l0 k1 l0 (putD D_1 (rd_T34 l0 x11_1)) l0 (l0.length : Int) (wrap64 (x11_1 + 1))) else (some false)) else (none)) else (none)) else (locks_Right.l0 k1 l0 (putD D_1 (rd_T34 l0 x11_1)) l0 (l0.length : Int) (wrap64 (x11_1 + 1)))) else (some false)) else (if x11_1 > 0 then (if 0 ≤ (wrap64 (x11_1 - 1)) then (if (wrap64 (x11_1 - 1)) < (l0.length : Int) then (if ((Op.bytesLess (((rd_T34 l0 (wrap64 (x11_1 - 1))).f0).toList) (((rd_T34 l0 x11_1).f0).toList)) = true) then (locks_Right.l0 k1 l0 (putD D_1 (rd_T34 l0 x11_1)) l0 (l0.length : Int) (wrap64 (x11_1 + 1))) else (some false)) else (none)) else (none)) else (locks_Right.l0 k1 l0 (putD D_1 (rd_T34 l0 x11_1)) l0 (l0.length : Int) (wrap64 (x11_1 + 1))))) else (some false))) = some r := by rw [if_pos rfl] at H; exact H
        clear H
        have H := H1
        clear H1
        replace H := Option.bind_eq_some_iff.mp H
        obtain ⟨t111, A100, H⟩ := H
        replace H : (if t111 = true then (if t108 = true then (if t107 = ((rd_T34 l0 x11_1).f2) then (if x11_1 > 0 then (if 0 ≤ (wrap64 (x11_1 - 1)) then (if (wrap64 (x11_1 - 1)) < (l0.length : Int) then (if ((Op.bytesLess (((rd_T34 l0 (wrap64 (x11_1 - 1))).f0).toList) (((rd_T34 l0 x11_1).f0).toList)) = true) then (locks_Right.l0 k1 l0 (putD D_1 (rd_T34 l0 x11_1)) l0 (l0.length : Int) (wrap64 (x11_1 + 1))) else (some false)) else (none)) else (none)) else (locks_Right.l0 k1 l0 (putD D_1 (rd_T34 l0 x11_1)) l0 (l0.length : Int) (wrap64 (x11_1 + 1)))) else (some false)) else (if x11_1 > 0 then (if 0 ≤ (wrap64 (x11_1 - 1)) then (if (wrap64 (x11_1 - 1)) < (l0.length : Int) then (if ((Op.bytesLess (((rd_T34 l0 (wrap64 (x11_1 - 1))).f0).toList) (((rd_T34 l0 x11_1).f0).toList)) = true) then (locks_Right.l0 k1 l0 (putD D_1 (rd_T34 l0 x11_1)) l0 (l0.length : Int) (wrap64 (x11_1 + 1))) else (some false)) else (none)) else (none)) else (locks_Right.l0 k1 l0 (putD D_1 (rd_T34 l0 x11_1)) l0 (l0.length : Int) (wrap64 (x11_1 + 1))))) else (some false)) = some r := H
        have A10 := Aside0.mk A100
        clear A100
        by_cases c11 : t111 = true
        ·subst c11
         have H1 : (if t108 = true then (if t107 = ((rd_T34 l0 x11_1).f2) then (if x11_1 > 0 then (if 0 ≤ (wrap64 (x11_1 - 1)) then (if (wrap64 (x11_1 - 1)) < (l0.length : Int) then (if ((Op.bytesLess (((rd_T34 l0 (wrap64 (x11_1 - 1))).f0).toList) (((rd_T34 l0 x11_1).f0).toList)) = true) then (locks_Right.l0 k1 l0 (putD D_1 (rd_T34 l0 x11_1)) l0 (l0.length : Int) (wrap64 (x11_1 + 1))) else (some false)) else (none)) else (none)) else (locks_Right.l0 k1 l0 (putD D_1 (rd_T34 l0 x11_1)) l0 (l0.length : Int) (wrap64 (x11_1 + 1)))) else (some false)) else (if x11_1 > 0 then (if 0 ≤ (wrap64 (x11_1 - 1)) then (if (wrap64 (x11_1 - 1)) < (l0.length : Int) then (if ((Op.bytesLess (((rd_T34 l0 (wrap64 (x11_1 - 1))).f0).toList) (((rd_T34 l0 x11_1).f0).toList)) = true) then (locks_Right.l0 k1 l0 (putD D_1 (rd_T34 l0 x11_1)) l0 (l0.length : Int) (wrap64 (x11_1 + 1))) else (some false)) else (none)) else (none)) else (locks_Right.l0 k1 l0 (putD D_1 (rd_T34 l0 x11_1)) l0 (l0.length : Int) (wrap64 (x11_1 + 1))))) = some r := by rw [if_pos rfl] at H; exact H
         clear H
         have H := H1
         clear H1
         by_cases c12 : t108 = true
         ·subst c12
          have H1 : (if t107 = ((rd_T34 l0 x11_1).f2) then (if x11_1 > 0 then (if 0 ≤ (wrap64 (x11_1 - 1)) then (if (wrap64 (x11_1 - 1)) < (l0.length : Int) then (if ((Op.bytesLess (((rd_T34 l0 (wrap64 (x11_1 - 1))).f0).toList) (((rd_T34 l0 x11_1).f0).toList)) = true) then (locks_Right.l0 k1 l0 (putD D_1 (rd_T34 l0 x11_1)) l0 (l0.length : Int) (wrap64 (x11_1 + 1))) else (some false)) else (none)) else (none)) else (locks_Right.l0 k1 l0 (putD D_1 (rd_T34 l0 x11_1)) l0 (l0.length : Int) (wrap64 (x11_1 + 1)))) else (some false)) = some r := by rw [if_pos rfl] at H; exact H
          clear H
          have H := H1
          clear H1
          by_cases c13 : t107 = ((rd_T34 l0 x11_1).f2)
          ·rw [if_pos c13] at H
           have c13b0 : (t107 == ((rd_T34 l0 x11_1).f2)) = true := beq_iff_eq.mpr c13
           have c13b1 : (t107 != ((rd_T34 l0 x11_1).f2)) = false := bne_eq_false_iff_eq.mpr c13
           clear c13
           by_cases c14 : x11_1 > 0
           ·rw [if_pos c14] at H
            have c14b0 : decide (0 < x11_1) = true := decide_eq_true c14
            clear c14
            obtain ⟨ji15, hji15⟩ : ∃ j_ : Int, (wrap64 (x11_1 - 1)) = j_ := ⟨_, rfl⟩
            replace H : (if 0 ≤ (ji15) then (if (ji15) < (l0.length : Int) then (if ((Op.bytesLess (((rd_T34 l0 (ji15)).f0).toList) (((rd_T34 l0 x11_1).f0).toList)) = true) then (locks_Right.l0 k1 l0 (putD D_1 (rd_T34 l0 x11_1)) l0 (l0.length : Int) (wrap64 (x11_1 + 1))) else (some false)) else (none)) else (none)) = some r := by first | (rw [hji15] at H; exact H) | (simp only [hji15] at H ⊢; exact H)
            (try rw [hji15] at A5)
            (try rw [hji15] at A6)
            (try rw [hji15] at A8)
            (try rw [hji15] at A10)
            have hji15w : (IntKind.i64.wrap (x11_1 - 1)) = ji15 := (i64_w _).trans hji15
            by_cases c16 : 0 ≤ (ji15)
            ·rw [if_pos c16] at H
             have c16b0 : decide (0 ≤ (ji15)) = true := decide_eq_true c16
             clear c16
             by_cases c17 : (ji15) < (l0.length : Int)
             ·rw [if_pos c17] at H
              have c17b0 : decide ((ji15) < (l0.length : Int)) = true := decide_eq_true c17
              clear c17
              by_cases c18 : ((Op.bytesLess (((rd_T34 l0 (ji15)).f0).toList) (((rd_T34 l0 x11_1).f0).toList)) = true)
              ·rw [if_pos c18] at H
               have c18b0 : (Op.bytesLess (((rd_T34 l0 (ji15)).f0).toList) (((rd_T34 l0 x11_1).f0).toList)) = true := c18
               clear c18
               have H' := Aside0.mk H
               clear H
               have p105 : 0 ≤ (x11_1 : Int) := of_decide_eq_true (by first | (with_reducible assumption) | assumption)
               have q105 : x11_1 < (l0.length : Int) := of_decide_eq_true (by first | (with_reducible assumption) | assumption)
               obtain ⟨ad105, e105, hx105_0, hx105_1, hx105_2⟩ := at_T34 HR0.out x11_1 p105 q105
               cases e105
               replace hx105_0 := (HB.out.cell (World.block_lt_of_cell? wr _ hx105_0)).trans hx105_0
               replace hx105_1 := (HB.out.cell (World.block_lt_of_cell? wr _ hx105_1)).trans hx105_1
               replace hx105_2 := (HB.out.cell (World.block_lt_of_cell? wr _ hx105_2)).trans hx105_2
               replace p105 := eq_true p105
               replace q105 := eq_true q105
               try go_wp2_with (first | ((with_reducible refine gate_dst (N := 5) rfl ?_); refine box_event ?hg (N := 5) ?hd (cs := #[.string (⟨#[]⟩ : ByteArray), .int .i64 0, .int .i64 0]) (t := 34) ?hr ?_; (case hd => rfl); (case hg => rfl); (case hr => first | (go_simp; done) | (go_simp; rfl)); intro gb106 hg w19 hbox hb; have n0_ := Aside0.mk (below_step (kZ HB) hb); have n1_ := Aside0.mk (hbox); have n2_ := Aside0.mk ((by rw [hg]; exact (below_size (kZ HB)) : wr.heap.size ≤ gb106)); have n3_ := Aside0.mk ((by rw [hg]; exact (below_size (kZ HB)) : wr.heap.size ≤ gb106)); clear HB; have HB := n0_; have BK106 := n1_; have GW106 := n2_; have GE106 := n3_; clear n0_ n1_ n2_ n3_; clear hb hbox hg; have hcz20_0 : w19.cell? ⟨gb106, 0, none⟩ = some (.string (⟨#[]⟩ : ByteArray)) := (blk_cell BK106.out 0).trans rfl; have hcz20_1 : w19.cell? ⟨gb106, 1, none⟩ = some (.int .i64 0) := (blk_cell BK106.out 1).trans rfl; have hcz20_2 : w19.cell? ⟨gb106, 2, none⟩ = some (.int .i64 0) := (blk_cell BK106.out 2).trans rfl; have hfz20_0 := blk_frozen BK106.out 0; have hfz20_1 := blk_frozen BK106.out 1; have hfz20_2 := blk_frozen BK106.out 2) | (at_lookup; refine look_step rfl _ _ rfl rfl (om_below HM.out (kZ HB)) rfl (wf1 HWF.out x11_1) A5.out ?_))
               have n0_ : Aside0 ((((w19.setCell ⟨gb106, 0, none⟩ (.string ((rd_T34 l0 x11_1).f0))).setCell ⟨gb106, 1, none⟩ (.int .i64 ((rd_T34 l0 x11_1).f1))).setCell ⟨gb106, 2, none⟩ (.int .i64 ((rd_T34 l0 x11_1).f2))).heap[gb106]? = some (.cells #[.string ((rd_T34 l0 x11_1).f0), .int .i64 ((rd_T34 l0 x11_1).f1), .int .i64 ((rd_T34 l0 x11_1).f2)] 34 (0, 0))) := ⟨by (with_reducible repeat (first | refine blk_drewN ?_ _ | refine blk_drew ?_ | refine blk_alloc ?_ _)); refine blk_put (cs := #[.string ((rd_T34 l0 x11_1).f0), .int .i64 ((rd_T34 l0 x11_1).f1), .int .i64 0]) ?_ 2 _ rfl; (with_reducible repeat (first | refine blk_drewN ?_ _ | refine blk_drew ?_ | refine blk_alloc ?_ _)); refine blk_put (cs := #[.string ((rd_T34 l0 x11_1).f0), .int .i64 0, .int .i64 0]) ?_ 1 _ rfl; (with_reducible repeat (first | refine blk_drewN ?_ _ | refine blk_drew ?_ | refine blk_alloc ?_ _)); refine blk_put (cs := #[.string (⟨#[]⟩ : ByteArray), .int .i64 0, .int .i64 0]) ?_ 0 _ rfl; (with_reducible repeat (first | refine blk_drewN ?_ _ | refine blk_drew ?_ | refine blk_alloc ?_ _)); exact BK106.out⟩
               have n1_ : Aside0 (Below wr.heap.size wr (((w19.setCell ⟨gb106, 0, none⟩ (.string ((rd_T34 l0 x11_1).f0))).setCell ⟨gb106, 1, none⟩ (.int .i64 ((rd_T34 l0 x11_1).f1))).setCell ⟨gb106, 2, none⟩ (.int .i64 ((rd_T34 l0 x11_1).f2)))) := ⟨kZ HB⟩
               (try clear BK106)
               (try clear HB)
               generalize (((w19.setCell ⟨gb106, 0, none⟩ (.string ((rd_T34 l0 x11_1).f0))).setCell ⟨gb106, 1, none⟩ (.int .i64 ((rd_T34 l0 x11_1).f1))).setCell ⟨gb106, 2, none⟩ (.int .i64 ((rd_T34 l0 x11_1).f2))) = w21 at n0_ n1_ ⊢
               have BK106 := n0_
               have HB := n1_
               clear n0_ n1_
               (try (rw [drewN_self w21]; generalize hq_ : World.drewN w21 _ = w21; have n0_ : Aside0 (w21.heap[gb106]? = some (.cells #[.string ((rd_T34 l0 x11_1).f0), .int .i64 ((rd_T34 l0 x11_1).f1), .int .i64 ((rd_T34 l0 x11_1).f2)] 34 (0, 0))) := ⟨by rw [← hq_]; exact (kB BK106)⟩; have n1_ : Aside0 (Below wr.heap.size wr w21) := ⟨by rw [← hq_]; exact (kZ HB)⟩; clear BK106 HB hq_; have BK106 := n0_; have HB := n1_; clear n0_ n1_))
               have n0_ := Aside0.mk (blk_drew BK106.out)
               have n1_ := Aside0.mk (below_drew1 HB.out)
               clear BK106
               clear HB
               have BK106 := n0_
               have HB := n1_
               clear n0_ n1_
               have p112 : 0 ≤ ((ji15) : Int) := of_decide_eq_true (by first | (with_reducible assumption) | assumption)
               have q112 : (ji15) < (l0.length : Int) := of_decide_eq_true (by first | (with_reducible assumption) | assumption)
               obtain ⟨ad112, e112, hx112_0, hx112_1, hx112_2⟩ := at_T34 HR0.out (ji15) p112 q112
               have hw112_2 := hx112_2
               have hw112_1 := hx112_1
               have hw112_0 := hx112_0
               obtain rfl : ad105 = ad112 := (by injection e112)
               replace hx112_0 := (HB.out.cell (World.block_lt_of_cell? wr _ hx112_0)).trans hx112_0
               replace hx112_1 := (HB.out.cell (World.block_lt_of_cell? wr _ hx112_1)).trans hx112_1
               replace hx112_2 := (HB.out.cell (World.block_lt_of_cell? wr _ hx112_2)).trans hx112_2
               replace p112 := eq_true p112
               replace q112 := eq_true q112
               refine start_ (n := 40) (S := fun w' => w'.cell? ⟨gb106, 0, none⟩ = some (.string ((rd_T34 l0 x11_1).f0)) ∧ w'.cell? ⟨gb106, 1, none⟩ = some (.int .i64 ((rd_T34 l0 x11_1).f1)) ∧ w'.cell? ⟨gb106, 2, none⟩ = some (.int .i64 ((rd_T34 l0 x11_1).f2)) ∧ w'.cell? (ad105.add (((ji15)).toNat * 3)) = some (.string ((rd_T34 l0 (ji15)).f0)) ∧ w'.cell? ⟨(ad105.add (((ji15)).toNat * 3)).block, (ad105.add (((ji15)).toNat * 3)).off + 1, none⟩ = some (.int .i64 ((rd_T34 l0 (ji15)).f1)) ∧ w'.cell? ⟨(ad105.add (((ji15)).toNat * 3)).block, (ad105.add (((ji15)).toNat * 3)).off + 2, none⟩ = some (.int .i64 ((rd_T34 l0 (ji15)).f2))) (ds := []) x2tr40_0 (by kernel_rfl) rfl rfl ⟨(blk_cell BK106.out 0).trans rfl, (blk_cell BK106.out 1).trans rfl, (blk_cell BK106.out 2).trans rfl, ((HB.out.cell (World.block_lt_of_cell? wr _ hw112_0)).trans hw112_0), ((HB.out.cell (World.block_lt_of_cell? wr _ hw112_1)).trans hw112_1), ((HB.out.cell (World.block_lt_of_cell? wr _ hw112_2)).trans hw112_2)⟩ (fun hHeld => ?_); refine with_tabW locks_Right.tab6 locks_Right.bits6 (fun HT_ HW_ => ?_)
               generalize w21.drew = w22 at BK106 HB hx112_0 hx112_1 hx112_2 hHeld ⊢
               refine pA_ 0 23 x2tr40_1 HT_.out ?_
               refine take_ (i := 1) (N := some 24) (v := ?_) (a' := ?_) x2tr40_2 rfl rfl (take_ofW HT_.out HW_.out (by kernel_rfl)) (fun _ _ _ h => h) (Or.inl ⟨by rfl, ?_⟩) hHeld ?_ ?_
               rotate_left
               ·rintro w' ⟨s0, s1, s2, s3, s4, s5⟩
                go_simp
                with_reducible rfl
               rotate_left
               ·simp only [Act.put, List.setIfInBounds_toArray, List.set_cons_zero, List.set_cons_succ, i64_w, i32_w]
                rfl
               refine one_ (i := 2) (N := some 25) x2tr40_3 rfl rfl (one_of HT_.out (by kernel_rfl)) (by decide) (fun K hK => ?_)
               refine goes_ Try.func21 (by kernel_rfl) rfl #[.string ((rd_T34 l0 x11_1).f0)] (by rfl) rfl rfl (by (try simp only [List.map_toArray, List.map_cons, List.map_nil]); first | done | rfl | (simp only [List.length_drop, List.length_take]; rfl)) ?_
               with_reducible refine (path_Right.calls ((rd_T34 l0 x11_1).f0) true _ A6.out).mono ?_
               rintro e w23 ⟨rfl, hb⟩
               refine ⟨_, rfl, ?_⟩
               have n0_ := Aside0.mk (blk_below (g := gb106) (o := .cells #[.string ((rd_T34 l0 x11_1).f0), .int .i64 ((rd_T34 l0 x11_1).f1), .int .i64 ((rd_T34 l0 x11_1).f2)] 34 (0, 0)) (kB BK106) hb)
               have n1_ := Aside0.mk (below_step (kZ HB) hb)
               clear BK106
               clear HB
               have BK106 := n0_
               have HB := n1_
               clear n0_ n1_
               (try clear hb)
               (try clear hb2)
               (try clear hk)
               (try clear hi)
               refine hK.out _ _ ⟨(blk_cell BK106.out 0).trans rfl, (blk_cell BK106.out 1).trans rfl, (blk_cell BK106.out 2).trans rfl, ((HB.out.cell (World.block_lt_of_cell? wr _ hw112_0)).trans hw112_0), ((HB.out.cell (World.block_lt_of_cell? wr _ hw112_1)).trans hw112_1), ((HB.out.cell (World.block_lt_of_cell? wr _ hw112_2)).trans hw112_2)⟩ (fun hHeld => ?_)
               clear hK K
               refine norm_ (a' := ?_) ?_ ?_
               rotate_left
               ·show Act.put _ (some 25) _ = _
                simp only [Act.put, List.setIfInBounds_toArray, List.set_cons_zero, List.set_cons_succ, i64_w, i32_w]
                rfl
               refine pA_ 3 26 x2tr40_4 HT_.out ?_
               refine pA_ 4 27 x2tr40_5 HT_.out ?_
               refine pA_ 5 28 x2tr40_6 HT_.out ?_
               refine take_ (i := 6) (N := some 29) (v := ?_) (a' := ?_) x2tr40_7 rfl rfl (take_ofW HT_.out HW_.out (by kernel_rfl)) (fun _ _ _ h => h) (Or.inl ⟨by rfl, ?_⟩) hHeld ?_ ?_
               rotate_left
               ·rintro w' ⟨s0, s1, s2, s3, s4, s5⟩
                go_simp
                with_reducible rfl
               rotate_left
               ·simp only [Act.put, List.setIfInBounds_toArray, List.set_cons_zero, List.set_cons_succ, i64_w, i32_w]
                rfl
               refine one_ (i := 7) (N := some 30) x2tr40_8 rfl rfl (one_of HT_.out (by kernel_rfl)) (by decide) (fun K hK => ?_)
               refine goes_ Try.func24 (by kernel_rfl) rfl #[.int .i64 ((rd_T34 l0 x11_1).f1)] (by rfl) rfl rfl (by (try simp only [List.map_toArray, List.map_cons, List.map_nil]); first | done | rfl | (simp only [List.length_drop, List.length_take]; rfl)) ?_
               with_reducible refine (locks_number.calls ((rd_T34 l0 x11_1).f1) true _ A8.out).mono ?_
               rintro e w' ⟨rfl, ⟨nd, rfl⟩⟩
               refine ⟨_, rfl, ?_⟩
               refine hK.out _ _ ⟨(blk_cell BK106.out 0).trans rfl, (blk_cell BK106.out 1).trans rfl, (blk_cell BK106.out 2).trans rfl, ((HB.out.cell (World.block_lt_of_cell? wr _ hw112_0)).trans hw112_0), ((HB.out.cell (World.block_lt_of_cell? wr _ hw112_1)).trans hw112_1), ((HB.out.cell (World.block_lt_of_cell? wr _ hw112_2)).trans hw112_2)⟩ (fun hHeld => ?_)
               clear hK K
               refine norm_ (a' := ?_) ?_ ?_
               rotate_left
               ·show Act.put _ (some 30) _ = _
                simp only [Act.put, List.setIfInBounds_toArray, List.set_cons_zero, List.set_cons_succ, i64_w, i32_w]
                rfl
               refine pA_ 8 31 x2tr40_9 HT_.out ?_
               refine pA_ 9 32 x2tr40_10 HT_.out ?_
               refine pA_ 10 33 x2tr40_11 HT_.out ?_
               refine pA_ 11 34 x2tr40_12 HT_.out ?_
               refine take_ (i := 12) (N := some 35) (v := ?_) (a' := ?_) x2tr40_13 rfl rfl (take_ofW HT_.out HW_.out (by kernel_rfl)) (fun _ _ _ h => h) (Or.inl ⟨by rfl, ?_⟩) hHeld ?_ ?_
               rotate_left
               ·rintro w' ⟨s0, s1, s2, s3, s4, s5⟩
                go_simp
                with_reducible rfl
               rotate_left
               ·simp only [Act.put, List.setIfInBounds_toArray, List.set_cons_zero, List.set_cons_succ, i64_w, i32_w]
                rfl
               refine one_ (i := 13) (N := some 36) x2tr40_14 rfl rfl (one_of HT_.out (by kernel_rfl)) (by decide) (fun K hK => ?_)
               refine goes_ Try.func24 (by kernel_rfl) rfl #[.int .i64 ((rd_T34 l0 x11_1).f2)] (by rfl) rfl rfl (by (try simp only [List.map_toArray, List.map_cons, List.map_nil]); first | done | rfl | (simp only [List.length_drop, List.length_take]; rfl)) ?_
               with_reducible refine (locks_number.calls ((rd_T34 l0 x11_1).f2) true _ A10.out).mono ?_
               rintro e w' ⟨rfl, ⟨nd, rfl⟩⟩
               refine ⟨_, rfl, ?_⟩
               refine hK.out _ _ ⟨(blk_cell BK106.out 0).trans rfl, (blk_cell BK106.out 1).trans rfl, (blk_cell BK106.out 2).trans rfl, ((HB.out.cell (World.block_lt_of_cell? wr _ hw112_0)).trans hw112_0), ((HB.out.cell (World.block_lt_of_cell? wr _ hw112_1)).trans hw112_1), ((HB.out.cell (World.block_lt_of_cell? wr _ hw112_2)).trans hw112_2)⟩ (fun hHeld => ?_)
               clear hK K
               refine norm_ (a' := ?_) ?_ ?_
               rotate_left
               ·show Act.put _ (some 36) _ = _
                simp only [Act.put, List.setIfInBounds_toArray, List.set_cons_zero, List.set_cons_succ, i64_w, i32_w]
                rfl
               refine pA_ 14 37 x2tr40_15 HT_.out ?_
               refine pA_ 15 38 x2tr40_16 HT_.out ?_
               refine pA_ 16 39 x2tr40_17 HT_.out ?_
               refine pA_ 17 40 x2tr40_18 HT_.out ?_
               refine pA_ 18 41 x2tr40_19 HT_.out ?_
               refine pA_ 19 42 x2tr40_20 HT_.out ?_
               refine pA_ 20 43 x2tr40_21 HT_.out ?_
               refine take_ (i := 21) (N := some 44) (v := ?_) (a' := ?_) x2tr40_22 rfl rfl (take_ofW HT_.out HW_.out (by kernel_rfl)) (fun _ _ _ h => h) (Or.inl ⟨by rfl, ?_⟩) hHeld ?_ ?_
               rotate_left
               ·rintro w' ⟨s0, s1, s2, s3, s4, s5⟩
                go_simp
                with_reducible rfl
               rotate_left
               ·simp only [Act.put, List.setIfInBounds_toArray, List.set_cons_zero, List.set_cons_succ, i64_w, i32_w]
                rfl
               refine pA_ 22 45 x2tr40_23 HT_.out ?_
               refine pA_ 23 46 x2tr40_24 HT_.out ?_
               refine pA_ 24 47 x2tr40_25 HT_.out ?_
               refine pA_ 25 48 x2tr40_26 HT_.out ?_
               refine pA_ 26 49 x2tr40_27 HT_.out ?_
               refine pA_ 27 50 x2tr40_28 HT_.out ?_
               refine pA_ 28 51 x2tr40_29 HT_.out ?_
               refine pA_ 29 52 x2tr40_30 HT_.out ?_
               refine pA_ 30 53 x2tr40_31 HT_.out ?_
               refine pA_ 31 54 x2tr40_32 HT_.out ?_
               refine pA_ 32 55 x2tr40_33 HT_.out ?_
               refine pA_ 33 56 x2tr40_34 HT_.out ?_
               refine pA_ 35 58 x2tr40_m1111111111111111111111111111111111010000 HT_.out ?_
               refine take_ (i := 34) (N := some 57) (v := ?_) (a' := ?_) x2tr40_36 rfl rfl (take_ofW HT_.out HW_.out (by kernel_rfl)) (fun _ _ _ h => h) (Or.inl ⟨by rfl, ?_⟩) hHeld ?_ ?_
               rotate_left
               ·rintro w' ⟨s0, s1, s2, s3, s4, s5⟩
                go_simp
                with_reducible rfl
               rotate_left
               ·simp only [Act.put, List.setIfInBounds_toArray, List.set_cons_zero, List.set_cons_succ, i64_w, i32_w]
                rfl
               refine take_ (i := 36) (N := some 59) (v := ?_) (a' := ?_) x2tr40_37 rfl rfl (take_ofW HT_.out HW_.out (by kernel_rfl)) (fun _ _ _ h => h) (Or.inl ⟨by rfl, ?_⟩) hHeld ?_ ?_
               rotate_left
               ·rintro w' ⟨s0, s1, s2, s3, s4, s5⟩
                go_simp
                with_reducible rfl
               rotate_left
               ·simp only [Act.put, List.setIfInBounds_toArray, List.set_cons_zero, List.set_cons_succ, i64_w, i32_w]
                rfl
               refine pA_ 37 60 x2tr40_38 HT_.out ?_
               refine pA_ 38 61 x2tr40_39 HT_.out ?_
               refine pA_ 39 62 x2tr40_40 HT_.out ?_
               refine done_ (done_of HT_.out (by kernel_rfl)) ?_
               have hcz24_0 : w23.cell? ⟨gb106, 0, none⟩ = some (.string ((rd_T34 l0 x11_1).f0)) := (blk_cell BK106.out 0).trans rfl
               have hcz24_1 : w23.cell? ⟨gb106, 1, none⟩ = some (.int .i64 ((rd_T34 l0 x11_1).f1)) := (blk_cell BK106.out 1).trans rfl
               have hcz24_2 : w23.cell? ⟨gb106, 2, none⟩ = some (.int .i64 ((rd_T34 l0 x11_1).f2)) := (blk_cell BK106.out 2).trans rfl
               have hfz24_0 := blk_frozen BK106.out 0
               have hfz24_1 := blk_frozen BK106.out 1
               have hfz24_2 := blk_frozen BK106.out 2
               go_wp2_with (at_mapUpdate; refine upd_step rfl _ _ _ rfl rfl (om_below HM.out (kZ HB)) (nb HL.out c2b0) rfl rfl (wf1 HWF.out x11_1) (wf2 HWF.out x11_1) ?_; intro w9 hown9 hgr9)
               go_roundg k1
               case measure => have := HK1.out; omega
               case rel => exact ⟨(wrap64 (x11_1 + 1)), putD D_1 (rd_T34 l0 x11_1), (by first | rfl | (simp; done) | (simp [*]; done)), H', ⟨by have := HK1.out; omega⟩, ⟨below_put HB0.out (kZ HB) hgr9⟩, ⟨om_next HL.out c2b0 c3b0 hown9⟩⟩
              ·rw [if_neg c18] at H
               have c18b0 : (Op.bytesLess (((rd_T34 l0 (ji15)).f0).toList) (((rd_T34 l0 x11_1).f0).toList)) = false := by simpa using c18
               clear c18
               obtain rfl := Option.some.inj H
               have p105 : 0 ≤ (x11_1 : Int) := of_decide_eq_true (by first | (with_reducible assumption) | assumption)
               have q105 : x11_1 < (l0.length : Int) := of_decide_eq_true (by first | (with_reducible assumption) | assumption)
               obtain ⟨ad105, e105, hx105_0, hx105_1, hx105_2⟩ := at_T34 HR0.out x11_1 p105 q105
               cases e105
               replace hx105_0 := (HB.out.cell (World.block_lt_of_cell? wr _ hx105_0)).trans hx105_0
               replace hx105_1 := (HB.out.cell (World.block_lt_of_cell? wr _ hx105_1)).trans hx105_1
               replace hx105_2 := (HB.out.cell (World.block_lt_of_cell? wr _ hx105_2)).trans hx105_2
               replace p105 := eq_true p105
               replace q105 := eq_true q105
               try go_wp2_with (first | ((with_reducible refine gate_dst (N := 5) rfl ?_); refine box_event ?hg (N := 5) ?hd (cs := #[.string (⟨#[]⟩ : ByteArray), .int .i64 0, .int .i64 0]) (t := 34) ?hr ?_; (case hd => rfl); (case hg => rfl); (case hr => first | (go_simp; done) | (go_simp; rfl)); intro gb106 hg w25 hbox hb; have n0_ := Aside0.mk (below_step (kZ HB) hb); have n1_ := Aside0.mk (hbox); have n2_ := Aside0.mk ((by rw [hg]; exact (below_size (kZ HB)) : wr.heap.size ≤ gb106)); have n3_ := Aside0.mk ((by rw [hg]; exact (below_size (kZ HB)) : wr.heap.size ≤ gb106)); clear HB; have HB := n0_; have BK106 := n1_; have GW106 := n2_; have GE106 := n3_; clear n0_ n1_ n2_ n3_; clear hb hbox hg; have hcz26_0 : w25.cell? ⟨gb106, 0, none⟩ = some (.string (⟨#[]⟩ : ByteArray)) := (blk_cell BK106.out 0).trans rfl; have hcz26_1 : w25.cell? ⟨gb106, 1, none⟩ = some (.int .i64 0) := (blk_cell BK106.out 1).trans rfl; have hcz26_2 : w25.cell? ⟨gb106, 2, none⟩ = some (.int .i64 0) := (blk_cell BK106.out 2).trans rfl; have hfz26_0 := blk_frozen BK106.out 0; have hfz26_1 := blk_frozen BK106.out 1; have hfz26_2 := blk_frozen BK106.out 2) | (at_lookup; refine look_step rfl _ _ rfl rfl (om_below HM.out (kZ HB)) rfl (wf1 HWF.out x11_1) A5.out ?_))
               have n0_ : Aside0 ((((w25.setCell ⟨gb106, 0, none⟩ (.string ((rd_T34 l0 x11_1).f0))).setCell ⟨gb106, 1, none⟩ (.int .i64 ((rd_T34 l0 x11_1).f1))).setCell ⟨gb106, 2, none⟩ (.int .i64 ((rd_T34 l0 x11_1).f2))).heap[gb106]? = some (.cells #[.string ((rd_T34 l0 x11_1).f0), .int .i64 ((rd_T34 l0 x11_1).f1), .int .i64 ((rd_T34 l0 x11_1).f2)] 34 (0, 0))) := ⟨by (with_reducible repeat (first | refine blk_drewN ?_ _ | refine blk_drew ?_ | refine blk_alloc ?_ _)); refine blk_put (cs := #[.string ((rd_T34 l0 x11_1).f0), .int .i64 ((rd_T34 l0 x11_1).f1), .int .i64 0]) ?_ 2 _ rfl; (with_reducible repeat (first | refine blk_drewN ?_ _ | refine blk_drew ?_ | refine blk_alloc ?_ _)); refine blk_put (cs := #[.string ((rd_T34 l0 x11_1).f0), .int .i64 0, .int .i64 0]) ?_ 1 _ rfl; (with_reducible repeat (first | refine blk_drewN ?_ _ | refine blk_drew ?_ | refine blk_alloc ?_ _)); refine blk_put (cs := #[.string (⟨#[]⟩ : ByteArray), .int .i64 0, .int .i64 0]) ?_ 0 _ rfl; (with_reducible repeat (first | refine blk_drewN ?_ _ | refine blk_drew ?_ | refine blk_alloc ?_ _)); exact BK106.out⟩
               have n1_ : Aside0 (Below wr.heap.size wr (((w25.setCell ⟨gb106, 0, none⟩ (.string ((rd_T34 l0 x11_1).f0))).setCell ⟨gb106, 1, none⟩ (.int .i64 ((rd_T34 l0 x11_1).f1))).setCell ⟨gb106, 2, none⟩ (.int .i64 ((rd_T34 l0 x11_1).f2)))) := ⟨kZ HB⟩
               (try clear BK106)
               (try clear HB)
               generalize (((w25.setCell ⟨gb106, 0, none⟩ (.string ((rd_T34 l0 x11_1).f0))).setCell ⟨gb106, 1, none⟩ (.int .i64 ((rd_T34 l0 x11_1).f1))).setCell ⟨gb106, 2, none⟩ (.int .i64 ((rd_T34 l0 x11_1).f2))) = w27 at n0_ n1_ ⊢
               have BK106 := n0_
               have HB := n1_
               clear n0_ n1_
               (try (rw [drewN_self w27]; generalize hq_ : World.drewN w27 _ = w27; have n0_ : Aside0 (w27.heap[gb106]? = some (.cells #[.string ((rd_T34 l0 x11_1).f0), .int .i64 ((rd_T34 l0 x11_1).f1), .int .i64 ((rd_T34 l0 x11_1).f2)] 34 (0, 0))) := ⟨by rw [← hq_]; exact (kB BK106)⟩; have n1_ : Aside0 (Below wr.heap.size wr w27) := ⟨by rw [← hq_]; exact (kZ HB)⟩; clear BK106 HB hq_; have BK106 := n0_; have HB := n1_; clear n0_ n1_))
               have n0_ := Aside0.mk (blk_drew BK106.out)
               have n1_ := Aside0.mk (below_drew1 HB.out)
               clear BK106
               clear HB
               have BK106 := n0_
               have HB := n1_
               clear n0_ n1_
               have p112 : 0 ≤ ((ji15) : Int) := of_decide_eq_true (by first | (with_reducible assumption) | assumption)
               have q112 : (ji15) < (l0.length : Int) := of_decide_eq_true (by first | (with_reducible assumption) | assumption)
               obtain ⟨ad112, e112, hx112_0, hx112_1, hx112_2⟩ := at_T34 HR0.out (ji15) p112 q112
               have hw112_2 := hx112_2
               have hw112_1 := hx112_1
               have hw112_0 := hx112_0
               obtain rfl : ad105 = ad112 := (by injection e112)
               replace hx112_0 := (HB.out.cell (World.block_lt_of_cell? wr _ hx112_0)).trans hx112_0
               replace hx112_1 := (HB.out.cell (World.block_lt_of_cell? wr _ hx112_1)).trans hx112_1
               replace hx112_2 := (HB.out.cell (World.block_lt_of_cell? wr _ hx112_2)).trans hx112_2
               replace p112 := eq_true p112
               replace q112 := eq_true q112
               refine start_ (n := 40) (S := fun w' => w'.cell? ⟨gb106, 0, none⟩ = some (.string ((rd_T34 l0 x11_1).f0)) ∧ w'.cell? ⟨gb106, 1, none⟩ = some (.int .i64 ((rd_T34 l0 x11_1).f1)) ∧ w'.cell? ⟨gb106, 2, none⟩ = some (.int .i64 ((rd_T34 l0 x11_1).f2)) ∧ w'.cell? (ad105.add (((ji15)).toNat * 3)) = some (.string ((rd_T34 l0 (ji15)).f0)) ∧ w'.cell? ⟨(ad105.add (((ji15)).toNat * 3)).block, (ad105.add (((ji15)).toNat * 3)).off + 1, none⟩ = some (.int .i64 ((rd_T34 l0 (ji15)).f1)) ∧ w'.cell? ⟨(ad105.add (((ji15)).toNat * 3)).block, (ad105.add (((ji15)).toNat * 3)).off + 2, none⟩ = some (.int .i64 ((rd_T34 l0 (ji15)).f2))) (ds := []) x2tr40_0 (by kernel_rfl) rfl rfl ⟨(blk_cell BK106.out 0).trans rfl, (blk_cell BK106.out 1).trans rfl, (blk_cell BK106.out 2).trans rfl, ((HB.out.cell (World.block_lt_of_cell? wr _ hw112_0)).trans hw112_0), ((HB.out.cell (World.block_lt_of_cell? wr _ hw112_1)).trans hw112_1), ((HB.out.cell (World.block_lt_of_cell? wr _ hw112_2)).trans hw112_2)⟩ (fun hHeld => ?_); refine with_tabW locks_Right.tab6 locks_Right.bits6 (fun HT_ HW_ => ?_)
               generalize w27.drew = w28 at BK106 HB hx112_0 hx112_1 hx112_2 hHeld ⊢
               refine pA_ 0 23 x2tr40_1 HT_.out ?_
               refine take_ (i := 1) (N := some 24) (v := ?_) (a' := ?_) x2tr40_2 rfl rfl (take_ofW HT_.out HW_.out (by kernel_rfl)) (fun _ _ _ h => h) (Or.inl ⟨by rfl, ?_⟩) hHeld ?_ ?_
               rotate_left
               ·rintro w' ⟨s0, s1, s2, s3, s4, s5⟩
                go_simp
                with_reducible rfl
               rotate_left
               ·simp only [Act.put, List.setIfInBounds_toArray, List.set_cons_zero, List.set_cons_succ, i64_w, i32_w]
                rfl
               refine one_ (i := 2) (N := some 25) x2tr40_3 rfl rfl (one_of HT_.out (by kernel_rfl)) (by decide) (fun K hK => ?_)
               refine goes_ Try.func21 (by kernel_rfl) rfl #[.string ((rd_T34 l0 x11_1).f0)] (by rfl) rfl rfl (by (try simp only [List.map_toArray, List.map_cons, List.map_nil]); first | done | rfl | (simp only [List.length_drop, List.length_take]; rfl)) ?_
               with_reducible refine (path_Right.calls ((rd_T34 l0 x11_1).f0) true _ A6.out).mono ?_
               rintro e w29 ⟨rfl, hb⟩
               refine ⟨_, rfl, ?_⟩
               have n0_ := Aside0.mk (blk_below (g := gb106) (o := .cells #[.string ((rd_T34 l0 x11_1).f0), .int .i64 ((rd_T34 l0 x11_1).f1), .int .i64 ((rd_T34 l0 x11_1).f2)] 34 (0, 0)) (kB BK106) hb)
               have n1_ := Aside0.mk (below_step (kZ HB) hb)
               clear BK106
               clear HB
               have BK106 := n0_
               have HB := n1_
               clear n0_ n1_
               (try clear hb)
               (try clear hb2)
               (try clear hk)
               (try clear hi)
               refine hK.out _ _ ⟨(blk_cell BK106.out 0).trans rfl, (blk_cell BK106.out 1).trans rfl, (blk_cell BK106.out 2).trans rfl, ((HB.out.cell (World.block_lt_of_cell? wr _ hw112_0)).trans hw112_0), ((HB.out.cell (World.block_lt_of_cell? wr _ hw112_1)).trans hw112_1), ((HB.out.cell (World.block_lt_of_cell? wr _ hw112_2)).trans hw112_2)⟩ (fun hHeld => ?_)
               clear hK K
               refine norm_ (a' := ?_) ?_ ?_
               rotate_left
               ·show Act.put _ (some 25) _ = _
                simp only [Act.put, List.setIfInBounds_toArray, List.set_cons_zero, List.set_cons_succ, i64_w, i32_w]
                rfl
               refine pA_ 3 26 x2tr40_4 HT_.out ?_
               refine pA_ 4 27 x2tr40_5 HT_.out ?_
               refine pA_ 5 28 x2tr40_6 HT_.out ?_
               refine take_ (i := 6) (N := some 29) (v := ?_) (a' := ?_) x2tr40_7 rfl rfl (take_ofW HT_.out HW_.out (by kernel_rfl)) (fun _ _ _ h => h) (Or.inl ⟨by rfl, ?_⟩) hHeld ?_ ?_
               rotate_left
               ·rintro w' ⟨s0, s1, s2, s3, s4, s5⟩
                go_simp
                with_reducible rfl
               rotate_left
               ·simp only [Act.put, List.setIfInBounds_toArray, List.set_cons_zero, List.set_cons_succ, i64_w, i32_w]
                rfl
               refine one_ (i := 7) (N := some 30) x2tr40_8 rfl rfl (one_of HT_.out (by kernel_rfl)) (by decide) (fun K hK => ?_)
               refine goes_ Try.func24 (by kernel_rfl) rfl #[.int .i64 ((rd_T34 l0 x11_1).f1)] (by rfl) rfl rfl (by (try simp only [List.map_toArray, List.map_cons, List.map_nil]); first | done | rfl | (simp only [List.length_drop, List.length_take]; rfl)) ?_
               with_reducible refine (locks_number.calls ((rd_T34 l0 x11_1).f1) true _ A8.out).mono ?_
               rintro e w' ⟨rfl, ⟨nd, rfl⟩⟩
               refine ⟨_, rfl, ?_⟩
               refine hK.out _ _ ⟨(blk_cell BK106.out 0).trans rfl, (blk_cell BK106.out 1).trans rfl, (blk_cell BK106.out 2).trans rfl, ((HB.out.cell (World.block_lt_of_cell? wr _ hw112_0)).trans hw112_0), ((HB.out.cell (World.block_lt_of_cell? wr _ hw112_1)).trans hw112_1), ((HB.out.cell (World.block_lt_of_cell? wr _ hw112_2)).trans hw112_2)⟩ (fun hHeld => ?_)
               clear hK K
               refine norm_ (a' := ?_) ?_ ?_
               rotate_left
               ·show Act.put _ (some 30) _ = _
                simp only [Act.put, List.setIfInBounds_toArray, List.set_cons_zero, List.set_cons_succ, i64_w, i32_w]
                rfl
               refine pA_ 8 31 x2tr40_9 HT_.out ?_
               refine pA_ 9 32 x2tr40_10 HT_.out ?_
               refine pA_ 10 33 x2tr40_11 HT_.out ?_
               refine pA_ 11 34 x2tr40_12 HT_.out ?_
               refine take_ (i := 12) (N := some 35) (v := ?_) (a' := ?_) x2tr40_13 rfl rfl (take_ofW HT_.out HW_.out (by kernel_rfl)) (fun _ _ _ h => h) (Or.inl ⟨by rfl, ?_⟩) hHeld ?_ ?_
               rotate_left
               ·rintro w' ⟨s0, s1, s2, s3, s4, s5⟩
                go_simp
                with_reducible rfl
               rotate_left
               ·simp only [Act.put, List.setIfInBounds_toArray, List.set_cons_zero, List.set_cons_succ, i64_w, i32_w]
                rfl
               refine one_ (i := 13) (N := some 36) x2tr40_14 rfl rfl (one_of HT_.out (by kernel_rfl)) (by decide) (fun K hK => ?_)
               refine goes_ Try.func24 (by kernel_rfl) rfl #[.int .i64 ((rd_T34 l0 x11_1).f2)] (by rfl) rfl rfl (by (try simp only [List.map_toArray, List.map_cons, List.map_nil]); first | done | rfl | (simp only [List.length_drop, List.length_take]; rfl)) ?_
               with_reducible refine (locks_number.calls ((rd_T34 l0 x11_1).f2) true _ A10.out).mono ?_
               rintro e w' ⟨rfl, ⟨nd, rfl⟩⟩
               refine ⟨_, rfl, ?_⟩
               refine hK.out _ _ ⟨(blk_cell BK106.out 0).trans rfl, (blk_cell BK106.out 1).trans rfl, (blk_cell BK106.out 2).trans rfl, ((HB.out.cell (World.block_lt_of_cell? wr _ hw112_0)).trans hw112_0), ((HB.out.cell (World.block_lt_of_cell? wr _ hw112_1)).trans hw112_1), ((HB.out.cell (World.block_lt_of_cell? wr _ hw112_2)).trans hw112_2)⟩ (fun hHeld => ?_)
               clear hK K
               refine norm_ (a' := ?_) ?_ ?_
               rotate_left
               ·show Act.put _ (some 36) _ = _
                simp only [Act.put, List.setIfInBounds_toArray, List.set_cons_zero, List.set_cons_succ, i64_w, i32_w]
                rfl
               refine pA_ 14 37 x2tr40_15 HT_.out ?_
               refine pA_ 15 38 x2tr40_16 HT_.out ?_
               refine pA_ 16 39 x2tr40_17 HT_.out ?_
               refine pA_ 17 40 x2tr40_18 HT_.out ?_
               refine pA_ 18 41 x2tr40_19 HT_.out ?_
               refine pA_ 19 42 x2tr40_20 HT_.out ?_
               refine pA_ 20 43 x2tr40_21 HT_.out ?_
               refine take_ (i := 21) (N := some 44) (v := ?_) (a' := ?_) x2tr40_22 rfl rfl (take_ofW HT_.out HW_.out (by kernel_rfl)) (fun _ _ _ h => h) (Or.inl ⟨by rfl, ?_⟩) hHeld ?_ ?_
               rotate_left
               ·rintro w' ⟨s0, s1, s2, s3, s4, s5⟩
                go_simp
                with_reducible rfl
               rotate_left
               ·simp only [Act.put, List.setIfInBounds_toArray, List.set_cons_zero, List.set_cons_succ, i64_w, i32_w]
                rfl
               refine pA_ 22 45 x2tr40_23 HT_.out ?_
               refine pA_ 23 46 x2tr40_24 HT_.out ?_
               refine pA_ 24 47 x2tr40_25 HT_.out ?_
               refine pA_ 25 48 x2tr40_26 HT_.out ?_
               refine pA_ 26 49 x2tr40_27 HT_.out ?_
               refine pA_ 27 50 x2tr40_28 HT_.out ?_
               refine pA_ 28 51 x2tr40_29 HT_.out ?_
               refine pA_ 29 52 x2tr40_30 HT_.out ?_
               refine pA_ 30 53 x2tr40_31 HT_.out ?_
               refine pA_ 31 54 x2tr40_32 HT_.out ?_
               refine pA_ 32 55 x2tr40_33 HT_.out ?_
               refine pA_ 33 56 x2tr40_34 HT_.out ?_
               refine pA_ 35 58 x2tr40_m1111111111111111111111111111111111010000 HT_.out ?_
               refine take_ (i := 34) (N := some 57) (v := ?_) (a' := ?_) x2tr40_36 rfl rfl (take_ofW HT_.out HW_.out (by kernel_rfl)) (fun _ _ _ h => h) (Or.inl ⟨by rfl, ?_⟩) hHeld ?_ ?_
               rotate_left
               ·rintro w' ⟨s0, s1, s2, s3, s4, s5⟩
                go_simp
                with_reducible rfl
               rotate_left
               ·simp only [Act.put, List.setIfInBounds_toArray, List.set_cons_zero, List.set_cons_succ, i64_w, i32_w]
                rfl
               refine take_ (i := 36) (N := some 59) (v := ?_) (a' := ?_) x2tr40_37 rfl rfl (take_ofW HT_.out HW_.out (by kernel_rfl)) (fun _ _ _ h => h) (Or.inl ⟨by rfl, ?_⟩) hHeld ?_ ?_
               rotate_left
               ·rintro w' ⟨s0, s1, s2, s3, s4, s5⟩
                go_simp
                with_reducible rfl
               rotate_left
               ·simp only [Act.put, List.setIfInBounds_toArray, List.set_cons_zero, List.set_cons_succ, i64_w, i32_w]
                rfl
               refine pA_ 37 60 x2tr40_38 HT_.out ?_
               refine pA_ 38 61 x2tr40_39 HT_.out ?_
               refine pA_ 39 62 x2tr40_40 HT_.out ?_
               refine done_ (done_of HT_.out (by kernel_rfl)) ?_
               try go_wp2
               go_ret
               exact ⟨by first | rfl | (simp [errW_none, errW_some] <;> rfl) | (simp only [← hji15]; first | rfl | (simp [errW_none, errW_some] <;> rfl)) | (simp [*, errW_none, errW_some] <;> rfl), below_step HB0.out (kZ HB)⟩
             ·rw [if_neg c17] at H
              exact absurd H (by simp)
            ·rw [if_neg c16] at H
             exact absurd H (by simp)
           ·rw [if_neg c14] at H
            have c14b0 : decide (0 < x11_1) = false := decide_eq_false c14
            clear c14
            have H' := Aside0.mk H
            clear H
            have p105 : 0 ≤ (x11_1 : Int) := of_decide_eq_true (by first | (with_reducible assumption) | assumption)
            have q105 : x11_1 < (l0.length : Int) := of_decide_eq_true (by first | (with_reducible assumption) | assumption)
            obtain ⟨ad105, e105, hx105_0, hx105_1, hx105_2⟩ := at_T34 HR0.out x11_1 p105 q105
            cases e105
            replace hx105_0 := (HB.out.cell (World.block_lt_of_cell? wr _ hx105_0)).trans hx105_0
            replace hx105_1 := (HB.out.cell (World.block_lt_of_cell? wr _ hx105_1)).trans hx105_1
            replace hx105_2 := (HB.out.cell (World.block_lt_of_cell? wr _ hx105_2)).trans hx105_2
            replace p105 := eq_true p105
            replace q105 := eq_true q105
            try go_wp2_with (first | ((with_reducible refine gate_dst (N := 5) rfl ?_); refine box_event ?hg (N := 5) ?hd (cs := #[.string (⟨#[]⟩ : ByteArray), .int .i64 0, .int .i64 0]) (t := 34) ?hr ?_; (case hd => rfl); (case hg => rfl); (case hr => first | (go_simp; done) | (go_simp; rfl)); intro gb106 hg w30 hbox hb; have n0_ := Aside0.mk (below_step (kZ HB) hb); have n1_ := Aside0.mk (hbox); have n2_ := Aside0.mk ((by rw [hg]; exact (below_size (kZ HB)) : wr.heap.size ≤ gb106)); have n3_ := Aside0.mk ((by rw [hg]; exact (below_size (kZ HB)) : wr.heap.size ≤ gb106)); clear HB; have HB := n0_; have BK106 := n1_; have GW106 := n2_; have GE106 := n3_; clear n0_ n1_ n2_ n3_; clear hb hbox hg; have hcz31_0 : w30.cell? ⟨gb106, 0, none⟩ = some (.string (⟨#[]⟩ : ByteArray)) := (blk_cell BK106.out 0).trans rfl; have hcz31_1 : w30.cell? ⟨gb106, 1, none⟩ = some (.int .i64 0) := (blk_cell BK106.out 1).trans rfl; have hcz31_2 : w30.cell? ⟨gb106, 2, none⟩ = some (.int .i64 0) := (blk_cell BK106.out 2).trans rfl; have hfz31_0 := blk_frozen BK106.out 0; have hfz31_1 := blk_frozen BK106.out 1; have hfz31_2 := blk_frozen BK106.out 2) | (at_lookup; refine look_step rfl _ _ rfl rfl (om_below HM.out (kZ HB)) rfl (wf1 HWF.out x11_1) A5.out ?_))
            have n0_ : Aside0 ((((w30.setCell ⟨gb106, 0, none⟩ (.string ((rd_T34 l0 x11_1).f0))).setCell ⟨gb106, 1, none⟩ (.int .i64 ((rd_T34 l0 x11_1).f1))).setCell ⟨gb106, 2, none⟩ (.int .i64 ((rd_T34 l0 x11_1).f2))).heap[gb106]? = some (.cells #[.string ((rd_T34 l0 x11_1).f0), .int .i64 ((rd_T34 l0 x11_1).f1), .int .i64 ((rd_T34 l0 x11_1).f2)] 34 (0, 0))) := ⟨by (with_reducible repeat (first | refine blk_drewN ?_ _ | refine blk_drew ?_ | refine blk_alloc ?_ _)); refine blk_put (cs := #[.string ((rd_T34 l0 x11_1).f0), .int .i64 ((rd_T34 l0 x11_1).f1), .int .i64 0]) ?_ 2 _ rfl; (with_reducible repeat (first | refine blk_drewN ?_ _ | refine blk_drew ?_ | refine blk_alloc ?_ _)); refine blk_put (cs := #[.string ((rd_T34 l0 x11_1).f0), .int .i64 0, .int .i64 0]) ?_ 1 _ rfl; (with_reducible repeat (first | refine blk_drewN ?_ _ | refine blk_drew ?_ | refine blk_alloc ?_ _)); refine blk_put (cs := #[.string (⟨#[]⟩ : ByteArray), .int .i64 0, .int .i64 0]) ?_ 0 _ rfl; (with_reducible repeat (first | refine blk_drewN ?_ _ | refine blk_drew ?_ | refine blk_alloc ?_ _)); exact BK106.out⟩
            have n1_ : Aside0 (Below wr.heap.size wr (((w30.setCell ⟨gb106, 0, none⟩ (.string ((rd_T34 l0 x11_1).f0))).setCell ⟨gb106, 1, none⟩ (.int .i64 ((rd_T34 l0 x11_1).f1))).setCell ⟨gb106, 2, none⟩ (.int .i64 ((rd_T34 l0 x11_1).f2)))) := ⟨kZ HB⟩
            (try clear BK106)
            (try clear HB)
            generalize (((w30.setCell ⟨gb106, 0, none⟩ (.string ((rd_T34 l0 x11_1).f0))).setCell ⟨gb106, 1, none⟩ (.int .i64 ((rd_T34 l0 x11_1).f1))).setCell ⟨gb106, 2, none⟩ (.int .i64 ((rd_T34 l0 x11_1).f2))) = w32 at n0_ n1_ ⊢
            have BK106 := n0_
            have HB := n1_
            clear n0_ n1_
            (try (rw [drewN_self w32]; generalize hq_ : World.drewN w32 _ = w32; have n0_ : Aside0 (w32.heap[gb106]? = some (.cells #[.string ((rd_T34 l0 x11_1).f0), .int .i64 ((rd_T34 l0 x11_1).f1), .int .i64 ((rd_T34 l0 x11_1).f2)] 34 (0, 0))) := ⟨by rw [← hq_]; exact (kB BK106)⟩; have n1_ : Aside0 (Below wr.heap.size wr w32) := ⟨by rw [← hq_]; exact (kZ HB)⟩; clear BK106 HB hq_; have BK106 := n0_; have HB := n1_; clear n0_ n1_))
            have n0_ := Aside0.mk (blk_drew BK106.out)
            have n1_ := Aside0.mk (below_drew1 HB.out)
            clear BK106
            clear HB
            have BK106 := n0_
            have HB := n1_
            clear n0_ n1_
            refine start_ (n := 40) (S := fun w' => w'.cell? ⟨gb106, 0, none⟩ = some (.string ((rd_T34 l0 x11_1).f0)) ∧ w'.cell? ⟨gb106, 1, none⟩ = some (.int .i64 ((rd_T34 l0 x11_1).f1)) ∧ w'.cell? ⟨gb106, 2, none⟩ = some (.int .i64 ((rd_T34 l0 x11_1).f2))) (ds := []) x2tr40_0 (by kernel_rfl) rfl rfl ⟨(blk_cell BK106.out 0).trans rfl, (blk_cell BK106.out 1).trans rfl, (blk_cell BK106.out 2).trans rfl⟩ (fun hHeld => ?_); refine with_tabW locks_Right.tab6 locks_Right.bits6 (fun HT_ HW_ => ?_)
            generalize w32.drew = w33 at BK106 HB hHeld ⊢
            refine pA_ 0 23 x2tr40_1 HT_.out ?_
            refine take_ (i := 1) (N := some 24) (v := ?_) (a' := ?_) x2tr40_2 rfl rfl (take_ofW HT_.out HW_.out (by kernel_rfl)) (fun _ _ _ h => h) (Or.inl ⟨by rfl, ?_⟩) hHeld ?_ ?_
            rotate_left
            ·rintro w' ⟨s0, s1, s2⟩
             go_simp
             with_reducible rfl
            rotate_left
            ·simp only [Act.put, List.setIfInBounds_toArray, List.set_cons_zero, List.set_cons_succ, i64_w, i32_w]
             rfl
            refine one_ (i := 2) (N := some 25) x2tr40_3 rfl rfl (one_of HT_.out (by kernel_rfl)) (by decide) (fun K hK => ?_)
            refine goes_ Try.func21 (by kernel_rfl) rfl #[.string ((rd_T34 l0 x11_1).f0)] (by rfl) rfl rfl (by (try simp only [List.map_toArray, List.map_cons, List.map_nil]); first | done | rfl | (simp only [List.length_drop, List.length_take]; rfl)) ?_
            with_reducible refine (path_Right.calls ((rd_T34 l0 x11_1).f0) true _ A6.out).mono ?_
            rintro e w34 ⟨rfl, hb⟩
            refine ⟨_, rfl, ?_⟩
            have n0_ := Aside0.mk (blk_below (g := gb106) (o := .cells #[.string ((rd_T34 l0 x11_1).f0), .int .i64 ((rd_T34 l0 x11_1).f1), .int .i64 ((rd_T34 l0 x11_1).f2)] 34 (0, 0)) (kB BK106) hb)
            have n1_ := Aside0.mk (below_step (kZ HB) hb)
            clear BK106
            clear HB
            have BK106 := n0_
            have HB := n1_
            clear n0_ n1_
            (try clear hb)
            (try clear hb2)
            (try clear hk)
            (try clear hi)
            refine hK.out _ _ ⟨(blk_cell BK106.out 0).trans rfl, (blk_cell BK106.out 1).trans rfl, (blk_cell BK106.out 2).trans rfl⟩ (fun hHeld => ?_)
            clear hK K
            refine norm_ (a' := ?_) ?_ ?_
            rotate_left
            ·show Act.put _ (some 25) _ = _
             simp only [Act.put, List.setIfInBounds_toArray, List.set_cons_zero, List.set_cons_succ, i64_w, i32_w]
             rfl
            refine pA_ 3 26 x2tr40_4 HT_.out ?_
            refine pA_ 4 27 x2tr40_5 HT_.out ?_
            refine pA_ 5 28 x2tr40_6 HT_.out ?_
            refine take_ (i := 6) (N := some 29) (v := ?_) (a' := ?_) x2tr40_7 rfl rfl (take_ofW HT_.out HW_.out (by kernel_rfl)) (fun _ _ _ h => h) (Or.inl ⟨by rfl, ?_⟩) hHeld ?_ ?_
            rotate_left
            ·rintro w' ⟨s0, s1, s2⟩
             go_simp
             with_reducible rfl
            rotate_left
            ·simp only [Act.put, List.setIfInBounds_toArray, List.set_cons_zero, List.set_cons_succ, i64_w, i32_w]
             rfl
            refine one_ (i := 7) (N := some 30) x2tr40_8 rfl rfl (one_of HT_.out (by kernel_rfl)) (by decide) (fun K hK => ?_)
            refine goes_ Try.func24 (by kernel_rfl) rfl #[.int .i64 ((rd_T34 l0 x11_1).f1)] (by rfl) rfl rfl (by (try simp only [List.map_toArray, List.map_cons, List.map_nil]); first | done | rfl | (simp only [List.length_drop, List.length_take]; rfl)) ?_
            with_reducible refine (locks_number.calls ((rd_T34 l0 x11_1).f1) true _ A8.out).mono ?_
            rintro e w' ⟨rfl, ⟨nd, rfl⟩⟩
            refine ⟨_, rfl, ?_⟩
            refine hK.out _ _ ⟨(blk_cell BK106.out 0).trans rfl, (blk_cell BK106.out 1).trans rfl, (blk_cell BK106.out 2).trans rfl⟩ (fun hHeld => ?_)
            clear hK K
            refine norm_ (a' := ?_) ?_ ?_
            rotate_left
            ·show Act.put _ (some 30) _ = _
             simp only [Act.put, List.setIfInBounds_toArray, List.set_cons_zero, List.set_cons_succ, i64_w, i32_w]
             rfl
            refine pA_ 8 31 x2tr40_9 HT_.out ?_
            refine pA_ 9 32 x2tr40_10 HT_.out ?_
            refine pA_ 10 33 x2tr40_11 HT_.out ?_
            refine pA_ 11 34 x2tr40_12 HT_.out ?_
            refine take_ (i := 12) (N := some 35) (v := ?_) (a' := ?_) x2tr40_13 rfl rfl (take_ofW HT_.out HW_.out (by kernel_rfl)) (fun _ _ _ h => h) (Or.inl ⟨by rfl, ?_⟩) hHeld ?_ ?_
            rotate_left
            ·rintro w' ⟨s0, s1, s2⟩
             go_simp
             with_reducible rfl
            rotate_left
            ·simp only [Act.put, List.setIfInBounds_toArray, List.set_cons_zero, List.set_cons_succ, i64_w, i32_w]
             rfl
            refine one_ (i := 13) (N := some 36) x2tr40_14 rfl rfl (one_of HT_.out (by kernel_rfl)) (by decide) (fun K hK => ?_)
            refine goes_ Try.func24 (by kernel_rfl) rfl #[.int .i64 ((rd_T34 l0 x11_1).f2)] (by rfl) rfl rfl (by (try simp only [List.map_toArray, List.map_cons, List.map_nil]); first | done | rfl | (simp only [List.length_drop, List.length_take]; rfl)) ?_
            with_reducible refine (locks_number.calls ((rd_T34 l0 x11_1).f2) true _ A10.out).mono ?_
            rintro e w' ⟨rfl, ⟨nd, rfl⟩⟩
            refine ⟨_, rfl, ?_⟩
            refine hK.out _ _ ⟨(blk_cell BK106.out 0).trans rfl, (blk_cell BK106.out 1).trans rfl, (blk_cell BK106.out 2).trans rfl⟩ (fun hHeld => ?_)
            clear hK K
            refine norm_ (a' := ?_) ?_ ?_
            rotate_left
            ·show Act.put _ (some 36) _ = _
             simp only [Act.put, List.setIfInBounds_toArray, List.set_cons_zero, List.set_cons_succ, i64_w, i32_w]
             rfl
            refine pA_ 14 37 x2tr40_15 HT_.out ?_
            refine pA_ 15 38 x2tr40_16 HT_.out ?_
            refine pA_ 16 39 x2tr40_17 HT_.out ?_
            refine pA_ 17 40 x2tr40_18 HT_.out ?_
            refine pA_ 18 41 x2tr40_19 HT_.out ?_
            refine pA_ 19 42 x2tr40_20 HT_.out ?_
            refine pA_ 20 43 x2tr40_21 HT_.out ?_
            refine take_ (i := 21) (N := some 44) (v := ?_) (a' := ?_) x2tr40_22 rfl rfl (take_ofW HT_.out HW_.out (by kernel_rfl)) (fun _ _ _ h => h) (Or.inl ⟨by rfl, ?_⟩) hHeld ?_ ?_
            rotate_left
            ·rintro w' ⟨s0, s1, s2⟩
             go_simp
             with_reducible rfl
            rotate_left
            ·simp only [Act.put, List.setIfInBounds_toArray, List.set_cons_zero, List.set_cons_succ, i64_w, i32_w]
             rfl
            refine pA_ 22 45 x2tr40_23 HT_.out ?_
            refine pA_ 23 46 x2tr40_24 HT_.out ?_
            refine pA_ 24 47 x2tr40_25 HT_.out ?_
            refine pA_ 25 48 x2tr40_26 HT_.out ?_
            refine pA_ 26 49 x2tr40_27 HT_.out ?_
            refine pA_ 27 50 x2tr40_28 HT_.out ?_
            refine pA_ 28 51 x2tr40_29 HT_.out ?_
            refine pU_ 29 52 x2tr40_30 HT_.out ?_
            refine pU_ 30 53 x2tr40_31 HT_.out ?_
            refine pU_ 31 54 x2tr40_32 HT_.out ?_
            refine pU_ 32 55 x2tr40_33 HT_.out ?_
            refine pU_ 33 56 x2tr40_34 HT_.out ?_
            refine pU_ 34 57 x2tr40_35 HT_.out ?_
            refine pU_ 35 58 x2tr40_36 HT_.out ?_
            refine pU_ 36 59 x2tr40_37 HT_.out ?_
            refine pU_ 37 60 x2tr40_38 HT_.out ?_
            refine pA_ 38 61 x2tr40_39 HT_.out ?_
            refine pA_ 39 62 x2tr40_40 HT_.out ?_
            refine done_ (done_of HT_.out (by kernel_rfl)) ?_
            have hcz35_0 : w34.cell? ⟨gb106, 0, none⟩ = some (.string ((rd_T34 l0 x11_1).f0)) := (blk_cell BK106.out 0).trans rfl
            have hcz35_1 : w34.cell? ⟨gb106, 1, none⟩ = some (.int .i64 ((rd_T34 l0 x11_1).f1)) := (blk_cell BK106.out 1).trans rfl
            have hcz35_2 : w34.cell? ⟨gb106, 2, none⟩ = some (.int .i64 ((rd_T34 l0 x11_1).f2)) := (blk_cell BK106.out 2).trans rfl
            have hfz35_0 := blk_frozen BK106.out 0
            have hfz35_1 := blk_frozen BK106.out 1
            have hfz35_2 := blk_frozen BK106.out 2
            go_wp2_with (at_mapUpdate; refine upd_step rfl _ _ _ rfl rfl (om_below HM.out (kZ HB)) (nb HL.out c2b0) rfl rfl (wf1 HWF.out x11_1) (wf2 HWF.out x11_1) ?_; intro w9 hown9 hgr9)
            go_roundg k1
            case measure => have := HK1.out; omega
            case rel => exact ⟨(wrap64 (x11_1 + 1)), putD D_1 (rd_T34 l0 x11_1), (by first | rfl | (simp; done) | (simp [*]; done)), H', ⟨by have := HK1.out; omega⟩, ⟨below_put HB0.out (kZ HB) hgr9⟩, ⟨om_next HL.out c2b0 c3b0 hown9⟩⟩
          ·rw [if_neg c13] at H
           have c13b0 : (t107 == ((rd_T34 l0 x11_1).f2)) = false := beq_eq_false_iff_ne.mpr c13
           have c13b1 : (t107 != ((rd_T34 l0 x11_1).f2)) = true := bne_iff_ne.mpr c13
           obtain rfl := Option.some.inj H
           have p105 : 0 ≤ (x11_1 : Int) := of_decide_eq_true (by first | (with_reducible assumption) | assumption)
           have q105 : x11_1 < (l0.length : Int) := of_decide_eq_true (by first | (with_reducible assumption) | assumption)
           obtain ⟨ad105, e105, hx105_0, hx105_1, hx105_2⟩ := at_T34 HR0.out x11_1 p105 q105
           cases e105
           replace hx105_0 := (HB.out.cell (World.block_lt_of_cell? wr _ hx105_0)).trans hx105_0
           replace hx105_1 := (HB.out.cell (World.block_lt_of_cell? wr _ hx105_1)).trans hx105_1
           replace hx105_2 := (HB.out.cell (World.block_lt_of_cell? wr _ hx105_2)).trans hx105_2
           replace p105 := eq_true p105
           replace q105 := eq_true q105
           try go_wp2_with (first | ((with_reducible refine gate_dst (N := 5) rfl ?_); refine box_event ?hg (N := 5) ?hd (cs := #[.string (⟨#[]⟩ : ByteArray), .int .i64 0, .int .i64 0]) (t := 34) ?hr ?_; (case hd => rfl); (case hg => rfl); (case hr => first | (go_simp; done) | (go_simp; rfl)); intro gb106 hg w36 hbox hb; have n0_ := Aside0.mk (below_step (kZ HB) hb); have n1_ := Aside0.mk (hbox); have n2_ := Aside0.mk ((by rw [hg]; exact (below_size (kZ HB)) : wr.heap.size ≤ gb106)); have n3_ := Aside0.mk ((by rw [hg]; exact (below_size (kZ HB)) : wr.heap.size ≤ gb106)); clear HB; have HB := n0_; have BK106 := n1_; have GW106 := n2_; have GE106 := n3_; clear n0_ n1_ n2_ n3_; clear hb hbox hg; have hcz37_0 : w36.cell? ⟨gb106, 0, none⟩ = some (.string (⟨#[]⟩ : ByteArray)) := (blk_cell BK106.out 0).trans rfl; have hcz37_1 : w36.cell? ⟨gb106, 1, none⟩ = some (.int .i64 0) := (blk_cell BK106.out 1).trans rfl; have hcz37_2 : w36.cell? ⟨gb106, 2, none⟩ = some (.int .i64 0) := (blk_cell BK106.out 2).trans rfl; have hfz37_0 := blk_frozen BK106.out 0; have hfz37_1 := blk_frozen BK106.out 1; have hfz37_2 := blk_frozen BK106.out 2) | (at_lookup; refine look_step rfl _ _ rfl rfl (om_below HM.out (kZ HB)) rfl (wf1 HWF.out x11_1) A5.out ?_))
           have n0_ : Aside0 ((((w36.setCell ⟨gb106, 0, none⟩ (.string ((rd_T34 l0 x11_1).f0))).setCell ⟨gb106, 1, none⟩ (.int .i64 ((rd_T34 l0 x11_1).f1))).setCell ⟨gb106, 2, none⟩ (.int .i64 ((rd_T34 l0 x11_1).f2))).heap[gb106]? = some (.cells #[.string ((rd_T34 l0 x11_1).f0), .int .i64 ((rd_T34 l0 x11_1).f1), .int .i64 ((rd_T34 l0 x11_1).f2)] 34 (0, 0))) := ⟨by (with_reducible repeat (first | refine blk_drewN ?_ _ | refine blk_drew ?_ | refine blk_alloc ?_ _)); refine blk_put (cs := #[.string ((rd_T34 l0 x11_1).f0), .int .i64 ((rd_T34 l0 x11_1).f1), .int .i64 0]) ?_ 2 _ rfl; (with_reducible repeat (first | refine blk_drewN ?_ _ | refine blk_drew ?_ | refine blk_alloc ?_ _)); refine blk_put (cs := #[.string ((rd_T34 l0 x11_1).f0), .int .i64 0, .int .i64 0]) ?_ 1 _ rfl; (with_reducible repeat (first | refine blk_drewN ?_ _ | refine blk_drew ?_ | refine blk_alloc ?_ _)); refine blk_put (cs := #[.string (⟨#[]⟩ : ByteArray), .int .i64 0, .int .i64 0]) ?_ 0 _ rfl; (with_reducible repeat (first | refine blk_drewN ?_ _ | refine blk_drew ?_ | refine blk_alloc ?_ _)); exact BK106.out⟩
           have n1_ : Aside0 (Below wr.heap.size wr (((w36.setCell ⟨gb106, 0, none⟩ (.string ((rd_T34 l0 x11_1).f0))).setCell ⟨gb106, 1, none⟩ (.int .i64 ((rd_T34 l0 x11_1).f1))).setCell ⟨gb106, 2, none⟩ (.int .i64 ((rd_T34 l0 x11_1).f2)))) := ⟨kZ HB⟩
           (try clear BK106)
           (try clear HB)
           generalize (((w36.setCell ⟨gb106, 0, none⟩ (.string ((rd_T34 l0 x11_1).f0))).setCell ⟨gb106, 1, none⟩ (.int .i64 ((rd_T34 l0 x11_1).f1))).setCell ⟨gb106, 2, none⟩ (.int .i64 ((rd_T34 l0 x11_1).f2))) = w38 at n0_ n1_ ⊢
           have BK106 := n0_
           have HB := n1_
           clear n0_ n1_
           (try (rw [drewN_self w38]; generalize hq_ : World.drewN w38 _ = w38; have n0_ : Aside0 (w38.heap[gb106]? = some (.cells #[.string ((rd_T34 l0 x11_1).f0), .int .i64 ((rd_T34 l0 x11_1).f1), .int .i64 ((rd_T34 l0 x11_1).f2)] 34 (0, 0))) := ⟨by rw [← hq_]; exact (kB BK106)⟩; have n1_ : Aside0 (Below wr.heap.size wr w38) := ⟨by rw [← hq_]; exact (kZ HB)⟩; clear BK106 HB hq_; have BK106 := n0_; have HB := n1_; clear n0_ n1_))
           have n0_ := Aside0.mk (blk_drew BK106.out)
           have n1_ := Aside0.mk (below_drew1 HB.out)
           clear BK106
           clear HB
           have BK106 := n0_
           have HB := n1_
           clear n0_ n1_
           refine start_ (n := 40) (S := fun w' => w'.cell? ⟨gb106, 0, none⟩ = some (.string ((rd_T34 l0 x11_1).f0)) ∧ w'.cell? ⟨gb106, 1, none⟩ = some (.int .i64 ((rd_T34 l0 x11_1).f1)) ∧ w'.cell? ⟨gb106, 2, none⟩ = some (.int .i64 ((rd_T34 l0 x11_1).f2))) (ds := []) x2tr40_0 (by kernel_rfl) rfl rfl ⟨(blk_cell BK106.out 0).trans rfl, (blk_cell BK106.out 1).trans rfl, (blk_cell BK106.out 2).trans rfl⟩ (fun hHeld => ?_); refine with_tabW locks_Right.tab6 locks_Right.bits6 (fun HT_ HW_ => ?_)
           generalize w38.drew = w39 at BK106 HB hHeld ⊢
           refine pA_ 0 23 x2tr40_1 HT_.out ?_
           refine take_ (i := 1) (N := some 24) (v := ?_) (a' := ?_) x2tr40_2 rfl rfl (take_ofW HT_.out HW_.out (by kernel_rfl)) (fun _ _ _ h => h) (Or.inl ⟨by rfl, ?_⟩) hHeld ?_ ?_
           rotate_left
           ·rintro w' ⟨s0, s1, s2⟩
            go_simp
            with_reducible rfl
           rotate_left
           ·simp only [Act.put, List.setIfInBounds_toArray, List.set_cons_zero, List.set_cons_succ, i64_w, i32_w]
            rfl
           refine one_ (i := 2) (N := some 25) x2tr40_3 rfl rfl (one_of HT_.out (by kernel_rfl)) (by decide) (fun K hK => ?_)
           refine goes_ Try.func21 (by kernel_rfl) rfl #[.string ((rd_T34 l0 x11_1).f0)] (by rfl) rfl rfl (by (try simp only [List.map_toArray, List.map_cons, List.map_nil]); first | done | rfl | (simp only [List.length_drop, List.length_take]; rfl)) ?_
           with_reducible refine (path_Right.calls ((rd_T34 l0 x11_1).f0) true _ A6.out).mono ?_
           rintro e w40 ⟨rfl, hb⟩
           refine ⟨_, rfl, ?_⟩
           have n0_ := Aside0.mk (blk_below (g := gb106) (o := .cells #[.string ((rd_T34 l0 x11_1).f0), .int .i64 ((rd_T34 l0 x11_1).f1), .int .i64 ((rd_T34 l0 x11_1).f2)] 34 (0, 0)) (kB BK106) hb)
           have n1_ := Aside0.mk (below_step (kZ HB) hb)
           clear BK106
           clear HB
           have BK106 := n0_
           have HB := n1_
           clear n0_ n1_
           (try clear hb)
           (try clear hb2)
           (try clear hk)
           (try clear hi)
           refine hK.out _ _ ⟨(blk_cell BK106.out 0).trans rfl, (blk_cell BK106.out 1).trans rfl, (blk_cell BK106.out 2).trans rfl⟩ (fun hHeld => ?_)
           clear hK K
           refine norm_ (a' := ?_) ?_ ?_
           rotate_left
           ·show Act.put _ (some 25) _ = _
            simp only [Act.put, List.setIfInBounds_toArray, List.set_cons_zero, List.set_cons_succ, i64_w, i32_w]
            rfl
           refine pA_ 3 26 x2tr40_4 HT_.out ?_
           refine pA_ 4 27 x2tr40_5 HT_.out ?_
           refine pA_ 5 28 x2tr40_6 HT_.out ?_
           refine take_ (i := 6) (N := some 29) (v := ?_) (a' := ?_) x2tr40_7 rfl rfl (take_ofW HT_.out HW_.out (by kernel_rfl)) (fun _ _ _ h => h) (Or.inl ⟨by rfl, ?_⟩) hHeld ?_ ?_
           rotate_left
           ·rintro w' ⟨s0, s1, s2⟩
            go_simp
            with_reducible rfl
           rotate_left
           ·simp only [Act.put, List.setIfInBounds_toArray, List.set_cons_zero, List.set_cons_succ, i64_w, i32_w]
            rfl
           refine one_ (i := 7) (N := some 30) x2tr40_8 rfl rfl (one_of HT_.out (by kernel_rfl)) (by decide) (fun K hK => ?_)
           refine goes_ Try.func24 (by kernel_rfl) rfl #[.int .i64 ((rd_T34 l0 x11_1).f1)] (by rfl) rfl rfl (by (try simp only [List.map_toArray, List.map_cons, List.map_nil]); first | done | rfl | (simp only [List.length_drop, List.length_take]; rfl)) ?_
           with_reducible refine (locks_number.calls ((rd_T34 l0 x11_1).f1) true _ A8.out).mono ?_
           rintro e w' ⟨rfl, ⟨nd, rfl⟩⟩
           refine ⟨_, rfl, ?_⟩
           refine hK.out _ _ ⟨(blk_cell BK106.out 0).trans rfl, (blk_cell BK106.out 1).trans rfl, (blk_cell BK106.out 2).trans rfl⟩ (fun hHeld => ?_)
           clear hK K
           refine norm_ (a' := ?_) ?_ ?_
           rotate_left
           ·show Act.put _ (some 30) _ = _
            simp only [Act.put, List.setIfInBounds_toArray, List.set_cons_zero, List.set_cons_succ, i64_w, i32_w]
            rfl
           refine pA_ 8 31 x2tr40_9 HT_.out ?_
           refine pA_ 9 32 x2tr40_10 HT_.out ?_
           refine pA_ 10 33 x2tr40_11 HT_.out ?_
           refine pA_ 11 34 x2tr40_12 HT_.out ?_
           refine take_ (i := 12) (N := some 35) (v := ?_) (a' := ?_) x2tr40_13 rfl rfl (take_ofW HT_.out HW_.out (by kernel_rfl)) (fun _ _ _ h => h) (Or.inl ⟨by rfl, ?_⟩) hHeld ?_ ?_
           rotate_left
           ·rintro w' ⟨s0, s1, s2⟩
            go_simp
            with_reducible rfl
           rotate_left
           ·simp only [Act.put, List.setIfInBounds_toArray, List.set_cons_zero, List.set_cons_succ, i64_w, i32_w]
            rfl
           refine one_ (i := 13) (N := some 36) x2tr40_14 rfl rfl (one_of HT_.out (by kernel_rfl)) (by decide) (fun K hK => ?_)
           refine goes_ Try.func24 (by kernel_rfl) rfl #[.int .i64 ((rd_T34 l0 x11_1).f2)] (by rfl) rfl rfl (by (try simp only [List.map_toArray, List.map_cons, List.map_nil]); first | done | rfl | (simp only [List.length_drop, List.length_take]; rfl)) ?_
           with_reducible refine (locks_number.calls ((rd_T34 l0 x11_1).f2) true _ A10.out).mono ?_
           rintro e w' ⟨rfl, ⟨nd, rfl⟩⟩
           refine ⟨_, rfl, ?_⟩
           refine hK.out _ _ ⟨(blk_cell BK106.out 0).trans rfl, (blk_cell BK106.out 1).trans rfl, (blk_cell BK106.out 2).trans rfl⟩ (fun hHeld => ?_)
           clear hK K
           refine norm_ (a' := ?_) ?_ ?_
           rotate_left
           ·show Act.put _ (some 36) _ = _
            simp only [Act.put, List.setIfInBounds_toArray, List.set_cons_zero, List.set_cons_succ, i64_w, i32_w]
            rfl
           refine pA_ 14 37 x2tr40_15 HT_.out ?_
           refine pA_ 15 38 x2tr40_16 HT_.out ?_
           refine pA_ 16 39 x2tr40_17 HT_.out ?_
           refine pA_ 17 40 x2tr40_18 HT_.out ?_
           refine pA_ 18 41 x2tr40_19 HT_.out ?_
           refine pA_ 19 42 x2tr40_20 HT_.out ?_
           refine pA_ 20 43 x2tr40_21 HT_.out ?_
           refine take_ (i := 21) (N := some 44) (v := ?_) (a' := ?_) x2tr40_22 rfl rfl (take_ofW HT_.out HW_.out (by kernel_rfl)) (fun _ _ _ h => h) (Or.inl ⟨by rfl, ?_⟩) hHeld ?_ ?_
           rotate_left
           ·rintro w' ⟨s0, s1, s2⟩
            go_simp
            with_reducible rfl
           rotate_left
           ·simp only [Act.put, List.setIfInBounds_toArray, List.set_cons_zero, List.set_cons_succ, i64_w, i32_w]
            rfl
           refine pA_ 22 45 x2tr40_23 HT_.out ?_
           refine pA_ 23 46 x2tr40_24 HT_.out ?_
           refine pA_ 24 47 x2tr40_25 HT_.out ?_
           refine pA_ 25 48 x2tr40_26 HT_.out ?_
           refine pU_ 26 49 x2tr40_27 HT_.out ?_
           refine pU_ 27 50 x2tr40_28 HT_.out ?_
           refine pU_ 28 51 x2tr40_29 HT_.out ?_
           refine pU_ 29 52 x2tr40_30 HT_.out ?_
           refine pU_ 30 53 x2tr40_31 HT_.out ?_
           refine pU_ 31 54 x2tr40_32 HT_.out ?_
           refine pU_ 32 55 x2tr40_33 HT_.out ?_
           refine pU_ 33 56 x2tr40_34 HT_.out ?_
           refine pU_ 34 57 x2tr40_35 HT_.out ?_
           refine pU_ 35 58 x2tr40_36 HT_.out ?_
           refine pU_ 36 59 x2tr40_37 HT_.out ?_
           refine pU_ 37 60 x2tr40_38 HT_.out ?_
           refine pU_ 38 61 x2tr40_39 HT_.out ?_
           refine pA_ 39 62 x2tr40_40 HT_.out ?_
           refine done_ (done_of HT_.out (by kernel_rfl)) ?_
           try go_wp2
           go_ret
           exact ⟨by first | rfl | (simp [errW_none, errW_some] <;> rfl) | (simp [*, errW_none, errW_some] <;> rfl), below_step HB0.out (kZ HB)⟩
         ·replace c12 := Bool.eq_false_iff.mpr c12
          subst c12
          have H1 : (if x11_1 > 0 then (if 0 ≤ (wrap64 (x11_1 - 1)) then (if (wrap64 (x11_1 - 1)) < (l0.length : Int) then (if ((Op.bytesLess (((rd_T34 l0 (wrap64 (x11_1 - 1))).f0).toList) (((rd_T34 l0 x11_1).f0).toList)) = true) then (locks_Right.l0 k1 l0 (putD D_1 (rd_T34 l0 x11_1)) l0 (l0.length : Int) (wrap64 (x11_1 + 1))) else (some false)) else (none)) else (none)) else (locks_Right.l0 k1 l0 (putD D_1 (rd_T34 l0 x11_1)) l0 (l0.length : Int) (wrap64 (x11_1 + 1)))) = some r := by rw [if_neg (show ¬ (false = true) by decide)] at H; exact H
          clear H
          have H := H1
          clear H1
          by_cases c41 : x11_1 > 0
          ·rw [if_pos c41] at H
           have c41b0 : decide (0 < x11_1) = true := decide_eq_true c41
           clear c41
           obtain ⟨ji42, hji42⟩ : ∃ j_ : Int, (wrap64 (x11_1 - 1)) = j_ := ⟨_, rfl⟩
           replace H : (if 0 ≤ (ji42) then (if (ji42) < (l0.length : Int) then (if ((Op.bytesLess (((rd_T34 l0 (ji42)).f0).toList) (((rd_T34 l0 x11_1).f0).toList)) = true) then (locks_Right.l0 k1 l0 (putD D_1 (rd_T34 l0 x11_1)) l0 (l0.length : Int) (wrap64 (x11_1 + 1))) else (some false)) else (none)) else (none)) = some r := by first | (rw [hji42] at H; exact H) | (simp only [hji42] at H ⊢; exact H)
           (try rw [hji42] at A5)
           (try rw [hji42] at A6)
           (try rw [hji42] at A8)
           (try rw [hji42] at A10)
           have hji42w : (IntKind.i64.wrap (x11_1 - 1)) = ji42 := (i64_w _).trans hji42
           by_cases c43 : 0 ≤ (ji42)
           ·rw [if_pos c43] at H
            have c43b0 : decide (0 ≤ (ji42)) = true := decide_eq_true c43
            clear c43
            by_cases c44 : (ji42) < (l0.length : Int)
            ·rw [if_pos c44] at H
             have c44b0 : decide ((ji42) < (l0.length : Int)) = true := decide_eq_true c44
             clear c44
             by_cases c45 : ((Op.bytesLess (((rd_T34 l0 (ji42)).f0).toList) (((rd_T34 l0 x11_1).f0).toList)) = true)
             ·rw [if_pos c45] at H
              have c45b0 : (Op.bytesLess (((rd_T34 l0 (ji42)).f0).toList) (((rd_T34 l0 x11_1).f0).toList)) = true := c45
              clear c45
              have H' := Aside0.mk H
              clear H
              have p105 : 0 ≤ (x11_1 : Int) := of_decide_eq_true (by first | (with_reducible assumption) | assumption)
              have q105 : x11_1 < (l0.length : Int) := of_decide_eq_true (by first | (with_reducible assumption) | assumption)
              obtain ⟨ad105, e105, hx105_0, hx105_1, hx105_2⟩ := at_T34 HR0.out x11_1 p105 q105
              cases e105
              replace hx105_0 := (HB.out.cell (World.block_lt_of_cell? wr _ hx105_0)).trans hx105_0
              replace hx105_1 := (HB.out.cell (World.block_lt_of_cell? wr _ hx105_1)).trans hx105_1
              replace hx105_2 := (HB.out.cell (World.block_lt_of_cell? wr _ hx105_2)).trans hx105_2
              replace p105 := eq_true p105
              replace q105 := eq_true q105
              try go_wp2_with (first | ((with_reducible refine gate_dst (N := 5) rfl ?_); refine box_event ?hg (N := 5) ?hd (cs := #[.string (⟨#[]⟩ : ByteArray), .int .i64 0, .int .i64 0]) (t := 34) ?hr ?_; (case hd => rfl); (case hg => rfl); (case hr => first | (go_simp; done) | (go_simp; rfl)); intro gb106 hg w46 hbox hb; have n0_ := Aside0.mk (below_step (kZ HB) hb); have n1_ := Aside0.mk (hbox); have n2_ := Aside0.mk ((by rw [hg]; exact (below_size (kZ HB)) : wr.heap.size ≤ gb106)); have n3_ := Aside0.mk ((by rw [hg]; exact (below_size (kZ HB)) : wr.heap.size ≤ gb106)); clear HB; have HB := n0_; have BK106 := n1_; have GW106 := n2_; have GE106 := n3_; clear n0_ n1_ n2_ n3_; clear hb hbox hg; have hcz47_0 : w46.cell? ⟨gb106, 0, none⟩ = some (.string (⟨#[]⟩ : ByteArray)) := (blk_cell BK106.out 0).trans rfl; have hcz47_1 : w46.cell? ⟨gb106, 1, none⟩ = some (.int .i64 0) := (blk_cell BK106.out 1).trans rfl; have hcz47_2 : w46.cell? ⟨gb106, 2, none⟩ = some (.int .i64 0) := (blk_cell BK106.out 2).trans rfl; have hfz47_0 := blk_frozen BK106.out 0; have hfz47_1 := blk_frozen BK106.out 1; have hfz47_2 := blk_frozen BK106.out 2) | (at_lookup; refine look_step rfl _ _ rfl rfl (om_below HM.out (kZ HB)) rfl (wf1 HWF.out x11_1) A5.out ?_))
              have n0_ : Aside0 ((((w46.setCell ⟨gb106, 0, none⟩ (.string ((rd_T34 l0 x11_1).f0))).setCell ⟨gb106, 1, none⟩ (.int .i64 ((rd_T34 l0 x11_1).f1))).setCell ⟨gb106, 2, none⟩ (.int .i64 ((rd_T34 l0 x11_1).f2))).heap[gb106]? = some (.cells #[.string ((rd_T34 l0 x11_1).f0), .int .i64 ((rd_T34 l0 x11_1).f1), .int .i64 ((rd_T34 l0 x11_1).f2)] 34 (0, 0))) := ⟨by (with_reducible repeat (first | refine blk_drewN ?_ _ | refine blk_drew ?_ | refine blk_alloc ?_ _)); refine blk_put (cs := #[.string ((rd_T34 l0 x11_1).f0), .int .i64 ((rd_T34 l0 x11_1).f1), .int .i64 0]) ?_ 2 _ rfl; (with_reducible repeat (first | refine blk_drewN ?_ _ | refine blk_drew ?_ | refine blk_alloc ?_ _)); refine blk_put (cs := #[.string ((rd_T34 l0 x11_1).f0), .int .i64 0, .int .i64 0]) ?_ 1 _ rfl; (with_reducible repeat (first | refine blk_drewN ?_ _ | refine blk_drew ?_ | refine blk_alloc ?_ _)); refine blk_put (cs := #[.string (⟨#[]⟩ : ByteArray), .int .i64 0, .int .i64 0]) ?_ 0 _ rfl; (with_reducible repeat (first | refine blk_drewN ?_ _ | refine blk_drew ?_ | refine blk_alloc ?_ _)); exact BK106.out⟩
              have n1_ : Aside0 (Below wr.heap.size wr (((w46.setCell ⟨gb106, 0, none⟩ (.string ((rd_T34 l0 x11_1).f0))).setCell ⟨gb106, 1, none⟩ (.int .i64 ((rd_T34 l0 x11_1).f1))).setCell ⟨gb106, 2, none⟩ (.int .i64 ((rd_T34 l0 x11_1).f2)))) := ⟨kZ HB⟩
              (try clear BK106)
              (try clear HB)
              generalize (((w46.setCell ⟨gb106, 0, none⟩ (.string ((rd_T34 l0 x11_1).f0))).setCell ⟨gb106, 1, none⟩ (.int .i64 ((rd_T34 l0 x11_1).f1))).setCell ⟨gb106, 2, none⟩ (.int .i64 ((rd_T34 l0 x11_1).f2))) = w48 at n0_ n1_ ⊢
              have BK106 := n0_
              have HB := n1_
              clear n0_ n1_
              (try (rw [drewN_self w48]; generalize hq_ : World.drewN w48 _ = w48; have n0_ : Aside0 (w48.heap[gb106]? = some (.cells #[.string ((rd_T34 l0 x11_1).f0), .int .i64 ((rd_T34 l0 x11_1).f1), .int .i64 ((rd_T34 l0 x11_1).f2)] 34 (0, 0))) := ⟨by rw [← hq_]; exact (kB BK106)⟩; have n1_ : Aside0 (Below wr.heap.size wr w48) := ⟨by rw [← hq_]; exact (kZ HB)⟩; clear BK106 HB hq_; have BK106 := n0_; have HB := n1_; clear n0_ n1_))
              have n0_ := Aside0.mk (blk_drew BK106.out)
              have n1_ := Aside0.mk (below_drew1 HB.out)
              clear BK106
              clear HB
              have BK106 := n0_
              have HB := n1_
              clear n0_ n1_
              have p113 : 0 ≤ ((ji42) : Int) := of_decide_eq_true (by first | (with_reducible assumption) | assumption)
              have q113 : (ji42) < (l0.length : Int) := of_decide_eq_true (by first | (with_reducible assumption) | assumption)
              obtain ⟨ad113, e113, hx113_0, hx113_1, hx113_2⟩ := at_T34 HR0.out (ji42) p113 q113
              have hw113_2 := hx113_2
              have hw113_1 := hx113_1
              have hw113_0 := hx113_0
              obtain rfl : ad105 = ad113 := (by injection e113)
              replace hx113_0 := (HB.out.cell (World.block_lt_of_cell? wr _ hx113_0)).trans hx113_0
              replace hx113_1 := (HB.out.cell (World.block_lt_of_cell? wr _ hx113_1)).trans hx113_1
              replace hx113_2 := (HB.out.cell (World.block_lt_of_cell? wr _ hx113_2)).trans hx113_2
              replace p113 := eq_true p113
              replace q113 := eq_true q113
              refine start_ (n := 40) (S := fun w' => w'.cell? ⟨gb106, 0, none⟩ = some (.string ((rd_T34 l0 x11_1).f0)) ∧ w'.cell? ⟨gb106, 1, none⟩ = some (.int .i64 ((rd_T34 l0 x11_1).f1)) ∧ w'.cell? ⟨gb106, 2, none⟩ = some (.int .i64 ((rd_T34 l0 x11_1).f2)) ∧ w'.cell? (ad105.add (((ji42)).toNat * 3)) = some (.string ((rd_T34 l0 (ji42)).f0)) ∧ w'.cell? ⟨(ad105.add (((ji42)).toNat * 3)).block, (ad105.add (((ji42)).toNat * 3)).off + 1, none⟩ = some (.int .i64 ((rd_T34 l0 (ji42)).f1)) ∧ w'.cell? ⟨(ad105.add (((ji42)).toNat * 3)).block, (ad105.add (((ji42)).toNat * 3)).off + 2, none⟩ = some (.int .i64 ((rd_T34 l0 (ji42)).f2))) (ds := []) x2tr40_0 (by kernel_rfl) rfl rfl ⟨(blk_cell BK106.out 0).trans rfl, (blk_cell BK106.out 1).trans rfl, (blk_cell BK106.out 2).trans rfl, ((HB.out.cell (World.block_lt_of_cell? wr _ hw113_0)).trans hw113_0), ((HB.out.cell (World.block_lt_of_cell? wr _ hw113_1)).trans hw113_1), ((HB.out.cell (World.block_lt_of_cell? wr _ hw113_2)).trans hw113_2)⟩ (fun hHeld => ?_); refine with_tabW locks_Right.tab6 locks_Right.bits6 (fun HT_ HW_ => ?_)
              generalize w48.drew = w49 at BK106 HB hx113_0 hx113_1 hx113_2 hHeld ⊢
              refine pA_ 0 23 x2tr40_1 HT_.out ?_
              refine take_ (i := 1) (N := some 24) (v := ?_) (a' := ?_) x2tr40_2 rfl rfl (take_ofW HT_.out HW_.out (by kernel_rfl)) (fun _ _ _ h => h) (Or.inl ⟨by rfl, ?_⟩) hHeld ?_ ?_
              rotate_left
              ·rintro w' ⟨s0, s1, s2, s3, s4, s5⟩
               go_simp
               with_reducible rfl
              rotate_left
              ·simp only [Act.put, List.setIfInBounds_toArray, List.set_cons_zero, List.set_cons_succ, i64_w, i32_w]
               rfl
              refine one_ (i := 2) (N := some 25) x2tr40_3 rfl rfl (one_of HT_.out (by kernel_rfl)) (by decide) (fun K hK => ?_)
              refine goes_ Try.func21 (by kernel_rfl) rfl #[.string ((rd_T34 l0 x11_1).f0)] (by rfl) rfl rfl (by (try simp only [List.map_toArray, List.map_cons, List.map_nil]); first | done | rfl | (simp only [List.length_drop, List.length_take]; rfl)) ?_
              with_reducible refine (path_Right.calls ((rd_T34 l0 x11_1).f0) true _ A6.out).mono ?_
              rintro e w50 ⟨rfl, hb⟩
              refine ⟨_, rfl, ?_⟩
              have n0_ := Aside0.mk (blk_below (g := gb106) (o := .cells #[.string ((rd_T34 l0 x11_1).f0), .int .i64 ((rd_T34 l0 x11_1).f1), .int .i64 ((rd_T34 l0 x11_1).f2)] 34 (0, 0)) (kB BK106) hb)
              have n1_ := Aside0.mk (below_step (kZ HB) hb)
              clear BK106
              clear HB
              have BK106 := n0_
              have HB := n1_
              clear n0_ n1_
              (try clear hb)
              (try clear hb2)
              (try clear hk)
              (try clear hi)
              refine hK.out _ _ ⟨(blk_cell BK106.out 0).trans rfl, (blk_cell BK106.out 1).trans rfl, (blk_cell BK106.out 2).trans rfl, ((HB.out.cell (World.block_lt_of_cell? wr _ hw113_0)).trans hw113_0), ((HB.out.cell (World.block_lt_of_cell? wr _ hw113_1)).trans hw113_1), ((HB.out.cell (World.block_lt_of_cell? wr _ hw113_2)).trans hw113_2)⟩ (fun hHeld => ?_)
              clear hK K
              refine norm_ (a' := ?_) ?_ ?_
              rotate_left
              ·show Act.put _ (some 25) _ = _
               simp only [Act.put, List.setIfInBounds_toArray, List.set_cons_zero, List.set_cons_succ, i64_w, i32_w]
               rfl
              refine pA_ 3 26 x2tr40_4 HT_.out ?_
              refine pA_ 4 27 x2tr40_5 HT_.out ?_
              refine pA_ 5 28 x2tr40_6 HT_.out ?_
              refine take_ (i := 6) (N := some 29) (v := ?_) (a' := ?_) x2tr40_7 rfl rfl (take_ofW HT_.out HW_.out (by kernel_rfl)) (fun _ _ _ h => h) (Or.inl ⟨by rfl, ?_⟩) hHeld ?_ ?_
              rotate_left
              ·rintro w' ⟨s0, s1, s2, s3, s4, s5⟩
               go_simp
               with_reducible rfl
              rotate_left
              ·simp only [Act.put, List.setIfInBounds_toArray, List.set_cons_zero, List.set_cons_succ, i64_w, i32_w]
               rfl
              refine one_ (i := 7) (N := some 30) x2tr40_8 rfl rfl (one_of HT_.out (by kernel_rfl)) (by decide) (fun K hK => ?_)
              refine goes_ Try.func24 (by kernel_rfl) rfl #[.int .i64 ((rd_T34 l0 x11_1).f1)] (by rfl) rfl rfl (by (try simp only [List.map_toArray, List.map_cons, List.map_nil]); first | done | rfl | (simp only [List.length_drop, List.length_take]; rfl)) ?_
              with_reducible refine (locks_number.calls ((rd_T34 l0 x11_1).f1) true _ A8.out).mono ?_
              rintro e w' ⟨rfl, ⟨nd, rfl⟩⟩
              refine ⟨_, rfl, ?_⟩
              refine hK.out _ _ ⟨(blk_cell BK106.out 0).trans rfl, (blk_cell BK106.out 1).trans rfl, (blk_cell BK106.out 2).trans rfl, ((HB.out.cell (World.block_lt_of_cell? wr _ hw113_0)).trans hw113_0), ((HB.out.cell (World.block_lt_of_cell? wr _ hw113_1)).trans hw113_1), ((HB.out.cell (World.block_lt_of_cell? wr _ hw113_2)).trans hw113_2)⟩ (fun hHeld => ?_)
              clear hK K
              refine norm_ (a' := ?_) ?_ ?_
              rotate_left
              ·show Act.put _ (some 30) _ = _
               simp only [Act.put, List.setIfInBounds_toArray, List.set_cons_zero, List.set_cons_succ, i64_w, i32_w]
               rfl
              refine pA_ 8 31 x2tr40_9 HT_.out ?_
              refine pA_ 9 32 x2tr40_10 HT_.out ?_
              refine pA_ 10 33 x2tr40_11 HT_.out ?_
              refine pA_ 11 34 x2tr40_12 HT_.out ?_
              refine take_ (i := 12) (N := some 35) (v := ?_) (a' := ?_) x2tr40_13 rfl rfl (take_ofW HT_.out HW_.out (by kernel_rfl)) (fun _ _ _ h => h) (Or.inl ⟨by rfl, ?_⟩) hHeld ?_ ?_
              rotate_left
              ·rintro w' ⟨s0, s1, s2, s3, s4, s5⟩
               go_simp
               with_reducible rfl
              rotate_left
              ·simp only [Act.put, List.setIfInBounds_toArray, List.set_cons_zero, List.set_cons_succ, i64_w, i32_w]
               rfl
              refine one_ (i := 13) (N := some 36) x2tr40_14 rfl rfl (one_of HT_.out (by kernel_rfl)) (by decide) (fun K hK => ?_)
              refine goes_ Try.func24 (by kernel_rfl) rfl #[.int .i64 ((rd_T34 l0 x11_1).f2)] (by rfl) rfl rfl (by (try simp only [List.map_toArray, List.map_cons, List.map_nil]); first | done | rfl | (simp only [List.length_drop, List.length_take]; rfl)) ?_
              with_reducible refine (locks_number.calls ((rd_T34 l0 x11_1).f2) true _ A10.out).mono ?_
              rintro e w' ⟨rfl, ⟨nd, rfl⟩⟩
              refine ⟨_, rfl, ?_⟩
              refine hK.out _ _ ⟨(blk_cell BK106.out 0).trans rfl, (blk_cell BK106.out 1).trans rfl, (blk_cell BK106.out 2).trans rfl, ((HB.out.cell (World.block_lt_of_cell? wr _ hw113_0)).trans hw113_0), ((HB.out.cell (World.block_lt_of_cell? wr _ hw113_1)).trans hw113_1), ((HB.out.cell (World.block_lt_of_cell? wr _ hw113_2)).trans hw113_2)⟩ (fun hHeld => ?_)
              clear hK K
              refine norm_ (a' := ?_) ?_ ?_
              rotate_left
              ·show Act.put _ (some 36) _ = _
               simp only [Act.put, List.setIfInBounds_toArray, List.set_cons_zero, List.set_cons_succ, i64_w, i32_w]
               rfl
              refine pA_ 14 37 x2tr40_15 HT_.out ?_
              refine pA_ 15 38 x2tr40_16 HT_.out ?_
              refine pA_ 16 39 x2tr40_17 HT_.out ?_
              refine pA_ 17 40 x2tr40_18 HT_.out ?_
              refine pA_ 18 41 x2tr40_19 HT_.out ?_
              refine pU_ 19 42 x2tr40_20 HT_.out ?_
              refine pU_ 20 43 x2tr40_21 HT_.out ?_
              refine pU_ 21 44 x2tr40_22 HT_.out ?_
              refine pU_ 22 45 x2tr40_23 HT_.out ?_
              refine pA_ 23 46 x2tr40_24 HT_.out ?_
              refine pA_ 24 47 x2tr40_25 HT_.out ?_
              refine pA_ 25 48 x2tr40_26 HT_.out ?_
              refine pA_ 26 49 x2tr40_27 HT_.out ?_
              refine pA_ 27 50 x2tr40_28 HT_.out ?_
              refine pA_ 28 51 x2tr40_29 HT_.out ?_
              refine pA_ 29 52 x2tr40_30 HT_.out ?_
              refine pA_ 30 53 x2tr40_31 HT_.out ?_
              refine pA_ 31 54 x2tr40_32 HT_.out ?_
              refine pA_ 32 55 x2tr40_33 HT_.out ?_
              refine pA_ 33 56 x2tr40_34 HT_.out ?_
              refine pA_ 35 58 x2tr40_m1111111111111111111111111111111111010000 HT_.out ?_
              refine take_ (i := 34) (N := some 57) (v := ?_) (a' := ?_) x2tr40_36 rfl rfl (take_ofW HT_.out HW_.out (by kernel_rfl)) (fun _ _ _ h => h) (Or.inl ⟨by rfl, ?_⟩) hHeld ?_ ?_
              rotate_left
              ·rintro w' ⟨s0, s1, s2, s3, s4, s5⟩
               go_simp
               with_reducible rfl
              rotate_left
              ·simp only [Act.put, List.setIfInBounds_toArray, List.set_cons_zero, List.set_cons_succ, i64_w, i32_w]
               rfl
              refine take_ (i := 36) (N := some 59) (v := ?_) (a' := ?_) x2tr40_37 rfl rfl (take_ofW HT_.out HW_.out (by kernel_rfl)) (fun _ _ _ h => h) (Or.inl ⟨by rfl, ?_⟩) hHeld ?_ ?_
              rotate_left
              ·rintro w' ⟨s0, s1, s2, s3, s4, s5⟩
               go_simp
               with_reducible rfl
              rotate_left
              ·simp only [Act.put, List.setIfInBounds_toArray, List.set_cons_zero, List.set_cons_succ, i64_w, i32_w]
               rfl
              refine pA_ 37 60 x2tr40_38 HT_.out ?_
              refine pA_ 38 61 x2tr40_39 HT_.out ?_
              refine pA_ 39 62 x2tr40_40 HT_.out ?_
              refine done_ (done_of HT_.out (by kernel_rfl)) ?_
              have hcz51_0 : w50.cell? ⟨gb106, 0, none⟩ = some (.string ((rd_T34 l0 x11_1).f0)) := (blk_cell BK106.out 0).trans rfl
              have hcz51_1 : w50.cell? ⟨gb106, 1, none⟩ = some (.int .i64 ((rd_T34 l0 x11_1).f1)) := (blk_cell BK106.out 1).trans rfl
              have hcz51_2 : w50.cell? ⟨gb106, 2, none⟩ = some (.int .i64 ((rd_T34 l0 x11_1).f2)) := (blk_cell BK106.out 2).trans rfl
              have hfz51_0 := blk_frozen BK106.out 0
              have hfz51_1 := blk_frozen BK106.out 1
              have hfz51_2 := blk_frozen BK106.out 2
              go_wp2_with (at_mapUpdate; refine upd_step rfl _ _ _ rfl rfl (om_below HM.out (kZ HB)) (nb HL.out c2b0) rfl rfl (wf1 HWF.out x11_1) (wf2 HWF.out x11_1) ?_; intro w9 hown9 hgr9)
              go_roundg k1
              case measure => have := HK1.out; omega
              case rel => exact ⟨(wrap64 (x11_1 + 1)), putD D_1 (rd_T34 l0 x11_1), (by first | rfl | (simp; done) | (simp [*]; done)), H', ⟨by have := HK1.out; omega⟩, ⟨below_put HB0.out (kZ HB) hgr9⟩, ⟨om_next HL.out c2b0 c3b0 hown9⟩⟩
             ·rw [if_neg c45] at H
              have c45b0 : (Op.bytesLess (((rd_T34 l0 (ji42)).f0).toList) (((rd_T34 l0 x11_1).f0).toList)) = false := by simpa using c45
              clear c45
              obtain rfl := Option.some.inj H
              have p105 : 0 ≤ (x11_1 : Int) := of_decide_eq_true (by first | (with_reducible assumption) | assumption)
              have q105 : x11_1 < (l0.length : Int) := of_decide_eq_true (by first | (with_reducible assumption) | assumption)
              obtain ⟨ad105, e105, hx105_0, hx105_1, hx105_2⟩ := at_T34 HR0.out x11_1 p105 q105
              cases e105
              replace hx105_0 := (HB.out.cell (World.block_lt_of_cell? wr _ hx105_0)).trans hx105_0
              replace hx105_1 := (HB.out.cell (World.block_lt_of_cell? wr _ hx105_1)).trans hx105_1
              replace hx105_2 := (HB.out.cell (World.block_lt_of_cell? wr _ hx105_2)).trans hx105_2
              replace p105 := eq_true p105
              replace q105 := eq_true q105
              try go_wp2_with (first | ((with_reducible refine gate_dst (N := 5) rfl ?_); refine box_event ?hg (N := 5) ?hd (cs := #[.string (⟨#[]⟩ : ByteArray), .int .i64 0, .int .i64 0]) (t := 34) ?hr ?_; (case hd => rfl); (case hg => rfl); (case hr => first | (go_simp; done) | (go_simp; rfl)); intro gb106 hg w52 hbox hb; have n0_ := Aside0.mk (below_step (kZ HB) hb); have n1_ := Aside0.mk (hbox); have n2_ := Aside0.mk ((by rw [hg]; exact (below_size (kZ HB)) : wr.heap.size ≤ gb106)); have n3_ := Aside0.mk ((by rw [hg]; exact (below_size (kZ HB)) : wr.heap.size ≤ gb106)); clear HB; have HB := n0_; have BK106 := n1_; have GW106 := n2_; have GE106 := n3_; clear n0_ n1_ n2_ n3_; clear hb hbox hg; have hcz53_0 : w52.cell? ⟨gb106, 0, none⟩ = some (.string (⟨#[]⟩ : ByteArray)) := (blk_cell BK106.out 0).trans rfl; have hcz53_1 : w52.cell? ⟨gb106, 1, none⟩ = some (.int .i64 0) := (blk_cell BK106.out 1).trans rfl; have hcz53_2 : w52.cell? ⟨gb106, 2, none⟩ = some (.int .i64 0) := (blk_cell BK106.out 2).trans rfl; have hfz53_0 := blk_frozen BK106.out 0; have hfz53_1 := blk_frozen BK106.out 1; have hfz53_2 := blk_frozen BK106.out 2) | (at_lookup; refine look_step rfl _ _ rfl rfl (om_below HM.out (kZ HB)) rfl (wf1 HWF.out x11_1) A5.out ?_))
              have n0_ : Aside0 ((((w52.setCell ⟨gb106, 0, none⟩ (.string ((rd_T34 l0 x11_1).f0))).setCell ⟨gb106, 1, none⟩ (.int .i64 ((rd_T34 l0 x11_1).f1))).setCell ⟨gb106, 2, none⟩ (.int .i64 ((rd_T34 l0 x11_1).f2))).heap[gb106]? = some (.cells #[.string ((rd_T34 l0 x11_1).f0), .int .i64 ((rd_T34 l0 x11_1).f1), .int .i64 ((rd_T34 l0 x11_1).f2)] 34 (0, 0))) := ⟨by (with_reducible repeat (first | refine blk_drewN ?_ _ | refine blk_drew ?_ | refine blk_alloc ?_ _)); refine blk_put (cs := #[.string ((rd_T34 l0 x11_1).f0), .int .i64 ((rd_T34 l0 x11_1).f1), .int .i64 0]) ?_ 2 _ rfl; (with_reducible repeat (first | refine blk_drewN ?_ _ | refine blk_drew ?_ | refine blk_alloc ?_ _)); refine blk_put (cs := #[.string ((rd_T34 l0 x11_1).f0), .int .i64 0, .int .i64 0]) ?_ 1 _ rfl; (with_reducible repeat (first | refine blk_drewN ?_ _ | refine blk_drew ?_ | refine blk_alloc ?_ _)); refine blk_put (cs := #[.string (⟨#[]⟩ : ByteArray), .int .i64 0, .int .i64 0]) ?_ 0 _ rfl; (with_reducible repeat (first | refine blk_drewN ?_ _ | refine blk_drew ?_ | refine blk_alloc ?_ _)); exact BK106.out⟩
              have n1_ : Aside0 (Below wr.heap.size wr (((w52.setCell ⟨gb106, 0, none⟩ (.string ((rd_T34 l0 x11_1).f0))).setCell ⟨gb106, 1, none⟩ (.int .i64 ((rd_T34 l0 x11_1).f1))).setCell ⟨gb106, 2, none⟩ (.int .i64 ((rd_T34 l0 x11_1).f2)))) := ⟨kZ HB⟩
              (try clear BK106)
              (try clear HB)
              generalize (((w52.setCell ⟨gb106, 0, none⟩ (.string ((rd_T34 l0 x11_1).f0))).setCell ⟨gb106, 1, none⟩ (.int .i64 ((rd_T34 l0 x11_1).f1))).setCell ⟨gb106, 2, none⟩ (.int .i64 ((rd_T34 l0 x11_1).f2))) = w54 at n0_ n1_ ⊢
              have BK106 := n0_
              have HB := n1_
              clear n0_ n1_
              (try (rw [drewN_self w54]; generalize hq_ : World.drewN w54 _ = w54; have n0_ : Aside0 (w54.heap[gb106]? = some (.cells #[.string ((rd_T34 l0 x11_1).f0), .int .i64 ((rd_T34 l0 x11_1).f1), .int .i64 ((rd_T34 l0 x11_1).f2)] 34 (0, 0))) := ⟨by rw [← hq_]; exact (kB BK106)⟩; have n1_ : Aside0 (Below wr.heap.size wr w54) := ⟨by rw [← hq_]; exact (kZ HB)⟩; clear BK106 HB hq_; have BK106 := n0_; have HB := n1_; clear n0_ n1_))
              have n0_ := Aside0.mk (blk_drew BK106.out)
              have n1_ := Aside0.mk (below_drew1 HB.out)
              clear BK106
              clear HB
              have BK106 := n0_
              have HB := n1_
              clear n0_ n1_
              have p113 : 0 ≤ ((ji42) : Int) := of_decide_eq_true (by first | (with_reducible assumption) | assumption)
              have q113 : (ji42) < (l0.length : Int) := of_decide_eq_true (by first | (with_reducible assumption) | assumption)
              obtain ⟨ad113, e113, hx113_0, hx113_1, hx113_2⟩ := at_T34 HR0.out (ji42) p113 q113
              have hw113_2 := hx113_2
              have hw113_1 := hx113_1
              have hw113_0 := hx113_0
              obtain rfl : ad105 = ad113 := (by injection e113)
              replace hx113_0 := (HB.out.cell (World.block_lt_of_cell? wr _ hx113_0)).trans hx113_0
              replace hx113_1 := (HB.out.cell (World.block_lt_of_cell? wr _ hx113_1)).trans hx113_1
              replace hx113_2 := (HB.out.cell (World.block_lt_of_cell? wr _ hx113_2)).trans hx113_2
              replace p113 := eq_true p113
              replace q113 := eq_true q113
              refine start_ (n := 40) (S := fun w' => w'.cell? ⟨gb106, 0, none⟩ = some (.string ((rd_T34 l0 x11_1).f0)) ∧ w'.cell? ⟨gb106, 1, none⟩ = some (.int .i64 ((rd_T34 l0 x11_1).f1)) ∧ w'.cell? ⟨gb106, 2, none⟩ = some (.int .i64 ((rd_T34 l0 x11_1).f2)) ∧ w'.cell? (ad105.add (((ji42)).toNat * 3)) = some (.string ((rd_T34 l0 (ji42)).f0)) ∧ w'.cell? ⟨(ad105.add (((ji42)).toNat * 3)).block, (ad105.add (((ji42)).toNat * 3)).off + 1, none⟩ = some (.int .i64 ((rd_T34 l0 (ji42)).f1)) ∧ w'.cell? ⟨(ad105.add (((ji42)).toNat * 3)).block, (ad105.add (((ji42)).toNat * 3)).off + 2, none⟩ = some (.int .i64 ((rd_T34 l0 (ji42)).f2))) (ds := []) x2tr40_0 (by kernel_rfl) rfl rfl ⟨(blk_cell BK106.out 0).trans rfl, (blk_cell BK106.out 1).trans rfl, (blk_cell BK106.out 2).trans rfl, ((HB.out.cell (World.block_lt_of_cell? wr _ hw113_0)).trans hw113_0), ((HB.out.cell (World.block_lt_of_cell? wr _ hw113_1)).trans hw113_1), ((HB.out.cell (World.block_lt_of_cell? wr _ hw113_2)).trans hw113_2)⟩ (fun hHeld => ?_); refine with_tabW locks_Right.tab6 locks_Right.bits6 (fun HT_ HW_ => ?_)
              generalize w54.drew = w55 at BK106 HB hx113_0 hx113_1 hx113_2 hHeld ⊢
              refine pA_ 0 23 x2tr40_1 HT_.out ?_
              refine take_ (i := 1) (N := some 24) (v := ?_) (a' := ?_) x2tr40_2 rfl rfl (take_ofW HT_.out HW_.out (by kernel_rfl)) (fun _ _ _ h => h) (Or.inl ⟨by rfl, ?_⟩) hHeld ?_ ?_
              rotate_left
              ·rintro w' ⟨s0, s1, s2, s3, s4, s5⟩
               go_simp
               with_reducible rfl
              rotate_left
              ·simp only [Act.put, List.setIfInBounds_toArray, List.set_cons_zero, List.set_cons_succ, i64_w, i32_w]
               rfl
              refine one_ (i := 2) (N := some 25) x2tr40_3 rfl rfl (one_of HT_.out (by kernel_rfl)) (by decide) (fun K hK => ?_)
              refine goes_ Try.func21 (by kernel_rfl) rfl #[.string ((rd_T34 l0 x11_1).f0)] (by rfl) rfl rfl (by (try simp only [List.map_toArray, List.map_cons, List.map_nil]); first | done | rfl | (simp only [List.length_drop, List.length_take]; rfl)) ?_
              with_reducible refine (path_Right.calls ((rd_T34 l0 x11_1).f0) true _ A6.out).mono ?_
              rintro e w56 ⟨rfl, hb⟩
              refine ⟨_, rfl, ?_⟩
              have n0_ := Aside0.mk (blk_below (g := gb106) (o := .cells #[.string ((rd_T34 l0 x11_1).f0), .int .i64 ((rd_T34 l0 x11_1).f1), .int .i64 ((rd_T34 l0 x11_1).f2)] 34 (0, 0)) (kB BK106) hb)
              have n1_ := Aside0.mk (below_step (kZ HB) hb)
              clear BK106
              clear HB
              have BK106 := n0_
              have HB := n1_
              clear n0_ n1_
              (try clear hb)
              (try clear hb2)
              (try clear hk)
              (try clear hi)
              refine hK.out _ _ ⟨(blk_cell BK106.out 0).trans rfl, (blk_cell BK106.out 1).trans rfl, (blk_cell BK106.out 2).trans rfl, ((HB.out.cell (World.block_lt_of_cell? wr _ hw113_0)).trans hw113_0), ((HB.out.cell (World.block_lt_of_cell? wr _ hw113_1)).trans hw113_1), ((HB.out.cell (World.block_lt_of_cell? wr _ hw113_2)).trans hw113_2)⟩ (fun hHeld => ?_)
              clear hK K
              refine norm_ (a' := ?_) ?_ ?_
              rotate_left
              ·show Act.put _ (some 25) _ = _
               simp only [Act.put, List.setIfInBounds_toArray, List.set_cons_zero, List.set_cons_succ, i64_w, i32_w]
               rfl
              refine pA_ 3 26 x2tr40_4 HT_.out ?_
              refine pA_ 4 27 x2tr40_5 HT_.out ?_
              refine pA_ 5 28 x2tr40_6 HT_.out ?_
              refine take_ (i := 6) (N := some 29) (v := ?_) (a' := ?_) x2tr40_7 rfl rfl (take_ofW HT_.out HW_.out (by kernel_rfl)) (fun _ _ _ h => h) (Or.inl ⟨by rfl, ?_⟩) hHeld ?_ ?_
              rotate_left
              ·rintro w' ⟨s0, s1, s2, s3, s4, s5⟩
               go_simp
               with_reducible rfl
              rotate_left
              ·simp only [Act.put, List.setIfInBounds_toArray, List.set_cons_zero, List.set_cons_succ, i64_w, i32_w]
               rfl
              refine one_ (i := 7) (N := some 30) x2tr40_8 rfl rfl (one_of HT_.out (by kernel_rfl)) (by decide) (fun K hK => ?_)
              refine goes_ Try.func24 (by kernel_rfl) rfl #[.int .i64 ((rd_T34 l0 x11_1).f1)] (by rfl) rfl rfl (by (try simp only [List.map_toArray, List.map_cons, List.map_nil]); first | done | rfl | (simp only [List.length_drop, List.length_take]; rfl)) ?_
              with_reducible refine (locks_number.calls ((rd_T34 l0 x11_1).f1) true _ A8.out).mono ?_
              rintro e w' ⟨rfl, ⟨nd, rfl⟩⟩
              refine ⟨_, rfl, ?_⟩
              refine hK.out _ _ ⟨(blk_cell BK106.out 0).trans rfl, (blk_cell BK106.out 1).trans rfl, (blk_cell BK106.out 2).trans rfl, ((HB.out.cell (World.block_lt_of_cell? wr _ hw113_0)).trans hw113_0), ((HB.out.cell (World.block_lt_of_cell? wr _ hw113_1)).trans hw113_1), ((HB.out.cell (World.block_lt_of_cell? wr _ hw113_2)).trans hw113_2)⟩ (fun hHeld => ?_)
              clear hK K
              refine norm_ (a' := ?_) ?_ ?_
              rotate_left
              ·show Act.put _ (some 30) _ = _
               simp only [Act.put, List.setIfInBounds_toArray, List.set_cons_zero, List.set_cons_succ, i64_w, i32_w]
               rfl
              refine pA_ 8 31 x2tr40_9 HT_.out ?_
              refine pA_ 9 32 x2tr40_10 HT_.out ?_
              refine pA_ 10 33 x2tr40_11 HT_.out ?_
              refine pA_ 11 34 x2tr40_12 HT_.out ?_
              refine take_ (i := 12) (N := some 35) (v := ?_) (a' := ?_) x2tr40_13 rfl rfl (take_ofW HT_.out HW_.out (by kernel_rfl)) (fun _ _ _ h => h) (Or.inl ⟨by rfl, ?_⟩) hHeld ?_ ?_
              rotate_left
              ·rintro w' ⟨s0, s1, s2, s3, s4, s5⟩
               go_simp
               with_reducible rfl
              rotate_left
              ·simp only [Act.put, List.setIfInBounds_toArray, List.set_cons_zero, List.set_cons_succ, i64_w, i32_w]
               rfl
              refine one_ (i := 13) (N := some 36) x2tr40_14 rfl rfl (one_of HT_.out (by kernel_rfl)) (by decide) (fun K hK => ?_)
              refine goes_ Try.func24 (by kernel_rfl) rfl #[.int .i64 ((rd_T34 l0 x11_1).f2)] (by rfl) rfl rfl (by (try simp only [List.map_toArray, List.map_cons, List.map_nil]); first | done | rfl | (simp only [List.length_drop, List.length_take]; rfl)) ?_
              with_reducible refine (locks_number.calls ((rd_T34 l0 x11_1).f2) true _ A10.out).mono ?_
              rintro e w' ⟨rfl, ⟨nd, rfl⟩⟩
              refine ⟨_, rfl, ?_⟩
              refine hK.out _ _ ⟨(blk_cell BK106.out 0).trans rfl, (blk_cell BK106.out 1).trans rfl, (blk_cell BK106.out 2).trans rfl, ((HB.out.cell (World.block_lt_of_cell? wr _ hw113_0)).trans hw113_0), ((HB.out.cell (World.block_lt_of_cell? wr _ hw113_1)).trans hw113_1), ((HB.out.cell (World.block_lt_of_cell? wr _ hw113_2)).trans hw113_2)⟩ (fun hHeld => ?_)
              clear hK K
              refine norm_ (a' := ?_) ?_ ?_
              rotate_left
              ·show Act.put _ (some 36) _ = _
               simp only [Act.put, List.setIfInBounds_toArray, List.set_cons_zero, List.set_cons_succ, i64_w, i32_w]
               rfl
              refine pA_ 14 37 x2tr40_15 HT_.out ?_
              refine pA_ 15 38 x2tr40_16 HT_.out ?_
              refine pA_ 16 39 x2tr40_17 HT_.out ?_
              refine pA_ 17 40 x2tr40_18 HT_.out ?_
              refine pA_ 18 41 x2tr40_19 HT_.out ?_
              refine pU_ 19 42 x2tr40_20 HT_.out ?_
              refine pU_ 20 43 x2tr40_21 HT_.out ?_
              refine pU_ 21 44 x2tr40_22 HT_.out ?_
              refine pU_ 22 45 x2tr40_23 HT_.out ?_
              refine pA_ 23 46 x2tr40_24 HT_.out ?_
              refine pA_ 24 47 x2tr40_25 HT_.out ?_
              refine pA_ 25 48 x2tr40_26 HT_.out ?_
              refine pA_ 26 49 x2tr40_27 HT_.out ?_
              refine pA_ 27 50 x2tr40_28 HT_.out ?_
              refine pA_ 28 51 x2tr40_29 HT_.out ?_
              refine pA_ 29 52 x2tr40_30 HT_.out ?_
              refine pA_ 30 53 x2tr40_31 HT_.out ?_
              refine pA_ 31 54 x2tr40_32 HT_.out ?_
              refine pA_ 32 55 x2tr40_33 HT_.out ?_
              refine pA_ 33 56 x2tr40_34 HT_.out ?_
              refine pA_ 35 58 x2tr40_m1111111111111111111111111111111111010000 HT_.out ?_
              refine take_ (i := 34) (N := some 57) (v := ?_) (a' := ?_) x2tr40_36 rfl rfl (take_ofW HT_.out HW_.out (by kernel_rfl)) (fun _ _ _ h => h) (Or.inl ⟨by rfl, ?_⟩) hHeld ?_ ?_
              rotate_left
              ·rintro w' ⟨s0, s1, s2, s3, s4, s5⟩
               go_simp
               with_reducible rfl
              rotate_left
              ·simp only [Act.put, List.setIfInBounds_toArray, List.set_cons_zero, List.set_cons_succ, i64_w, i32_w]
               rfl
              refine take_ (i := 36) (N := some 59) (v := ?_) (a' := ?_) x2tr40_37 rfl rfl (take_ofW HT_.out HW_.out (by kernel_rfl)) (fun _ _ _ h => h) (Or.inl ⟨by rfl, ?_⟩) hHeld ?_ ?_
              rotate_left
              ·rintro w' ⟨s0, s1, s2, s3, s4, s5⟩
               go_simp
               with_reducible rfl
              rotate_left
              ·simp only [Act.put, List.setIfInBounds_toArray, List.set_cons_zero, List.set_cons_succ, i64_w, i32_w]
               rfl
              refine pA_ 37 60 x2tr40_38 HT_.out ?_
              refine pA_ 38 61 x2tr40_39 HT_.out ?_
              refine pA_ 39 62 x2tr40_40 HT_.out ?_
              refine done_ (done_of HT_.out (by kernel_rfl)) ?_
              try go_wp2
              go_ret
              exact ⟨by first | rfl | (simp [errW_none, errW_some] <;> rfl) | (simp only [← hji42]; first | rfl | (simp [errW_none, errW_some] <;> rfl)) | (simp [*, errW_none, errW_some] <;> rfl), below_step HB0.out (kZ HB)⟩
            ·rw [if_neg c44] at H
             exact absurd H (by simp)
           ·rw [if_neg c43] at H
            exact absurd H (by simp)
          ·rw [if_neg c41] at H
           have c41b0 : decide (0 < x11_1) = false := decide_eq_false c41
           clear c41
           have H' := Aside0.mk H
           clear H
           have p105 : 0 ≤ (x11_1 : Int) := of_decide_eq_true (by first | (with_reducible assumption) | assumption)
           have q105 : x11_1 < (l0.length : Int) := of_decide_eq_true (by first | (with_reducible assumption) | assumption)
           obtain ⟨ad105, e105, hx105_0, hx105_1, hx105_2⟩ := at_T34 HR0.out x11_1 p105 q105
           cases e105
           replace hx105_0 := (HB.out.cell (World.block_lt_of_cell? wr _ hx105_0)).trans hx105_0
           replace hx105_1 := (HB.out.cell (World.block_lt_of_cell? wr _ hx105_1)).trans hx105_1
           replace hx105_2 := (HB.out.cell (World.block_lt_of_cell? wr _ hx105_2)).trans hx105_2
           replace p105 := eq_true p105
           replace q105 := eq_true q105
           try go_wp2_with (first | ((with_reducible refine gate_dst (N := 5) rfl ?_); refine box_event ?hg (N := 5) ?hd (cs := #[.string (⟨#[]⟩ : ByteArray), .int .i64 0, .int .i64 0]) (t := 34) ?hr ?_; (case hd => rfl); (case hg => rfl); (case hr => first | (go_simp; done) | (go_simp; rfl)); intro gb106 hg w57 hbox hb; have n0_ := Aside0.mk (below_step (kZ HB) hb); have n1_ := Aside0.mk (hbox); have n2_ := Aside0.mk ((by rw [hg]; exact (below_size (kZ HB)) : wr.heap.size ≤ gb106)); have n3_ := Aside0.mk ((by rw [hg]; exact (below_size (kZ HB)) : wr.heap.size ≤ gb106)); clear HB; have HB := n0_; have BK106 := n1_; have GW106 := n2_; have GE106 := n3_; clear n0_ n1_ n2_ n3_; clear hb hbox hg; have hcz58_0 : w57.cell? ⟨gb106, 0, none⟩ = some (.string (⟨#[]⟩ : ByteArray)) := (blk_cell BK106.out 0).trans rfl; have hcz58_1 : w57.cell? ⟨gb106, 1, none⟩ = some (.int .i64 0) := (blk_cell BK106.out 1).trans rfl; have hcz58_2 : w57.cell? ⟨gb106, 2, none⟩ = some (.int .i64 0) := (blk_cell BK106.out 2).trans rfl; have hfz58_0 := blk_frozen BK106.out 0; have hfz58_1 := blk_frozen BK106.out 1; have hfz58_2 := blk_frozen BK106.out 2) | (at_lookup; refine look_step rfl _ _ rfl rfl (om_below HM.out (kZ HB)) rfl (wf1 HWF.out x11_1) A5.out ?_))
           have n0_ : Aside0 ((((w57.setCell ⟨gb106, 0, none⟩ (.string ((rd_T34 l0 x11_1).f0))).setCell ⟨gb106, 1, none⟩ (.int .i64 ((rd_T34 l0 x11_1).f1))).setCell ⟨gb106, 2, none⟩ (.int .i64 ((rd_T34 l0 x11_1).f2))).heap[gb106]? = some (.cells #[.string ((rd_T34 l0 x11_1).f0), .int .i64 ((rd_T34 l0 x11_1).f1), .int .i64 ((rd_T34 l0 x11_1).f2)] 34 (0, 0))) := ⟨by (with_reducible repeat (first | refine blk_drewN ?_ _ | refine blk_drew ?_ | refine blk_alloc ?_ _)); refine blk_put (cs := #[.string ((rd_T34 l0 x11_1).f0), .int .i64 ((rd_T34 l0 x11_1).f1), .int .i64 0]) ?_ 2 _ rfl; (with_reducible repeat (first | refine blk_drewN ?_ _ | refine blk_drew ?_ | refine blk_alloc ?_ _)); refine blk_put (cs := #[.string ((rd_T34 l0 x11_1).f0), .int .i64 0, .int .i64 0]) ?_ 1 _ rfl; (with_reducible repeat (first | refine blk_drewN ?_ _ | refine blk_drew ?_ | refine blk_alloc ?_ _)); refine blk_put (cs := #[.string (⟨#[]⟩ : ByteArray), .int .i64 0, .int .i64 0]) ?_ 0 _ rfl; (with_reducible repeat (first | refine blk_drewN ?_ _ | refine blk_drew ?_ | refine blk_alloc ?_ _)); exact BK106.out⟩
           have n1_ : Aside0 (Below wr.heap.size wr (((w57.setCell ⟨gb106, 0, none⟩ (.string ((rd_T34 l0 x11_1).f0))).setCell ⟨gb106, 1, none⟩ (.int .i64 ((rd_T34 l0 x11_1).f1))).setCell ⟨gb106, 2, none⟩ (.int .i64 ((rd_T34 l0 x11_1).f2)))) := ⟨kZ HB⟩
           (try clear BK106)
           (try clear HB)
           generalize (((w57.setCell ⟨gb106, 0, none⟩ (.string ((rd_T34 l0 x11_1).f0))).setCell ⟨gb106, 1, none⟩ (.int .i64 ((rd_T34 l0 x11_1).f1))).setCell ⟨gb106, 2, none⟩ (.int .i64 ((rd_T34 l0 x11_1).f2))) = w59 at n0_ n1_ ⊢
           have BK106 := n0_
           have HB := n1_
           clear n0_ n1_
           (try (rw [drewN_self w59]; generalize hq_ : World.drewN w59 _ = w59; have n0_ : Aside0 (w59.heap[gb106]? = some (.cells #[.string ((rd_T34 l0 x11_1).f0), .int .i64 ((rd_T34 l0 x11_1).f1), .int .i64 ((rd_T34 l0 x11_1).f2)] 34 (0, 0))) := ⟨by rw [← hq_]; exact (kB BK106)⟩; have n1_ : Aside0 (Below wr.heap.size wr w59) := ⟨by rw [← hq_]; exact (kZ HB)⟩; clear BK106 HB hq_; have BK106 := n0_; have HB := n1_; clear n0_ n1_))
           have n0_ := Aside0.mk (blk_drew BK106.out)
           have n1_ := Aside0.mk (below_drew1 HB.out)
           clear BK106
           clear HB
           have BK106 := n0_
           have HB := n1_
           clear n0_ n1_
           refine start_ (n := 40) (S := fun w' => w'.cell? ⟨gb106, 0, none⟩ = some (.string ((rd_T34 l0 x11_1).f0)) ∧ w'.cell? ⟨gb106, 1, none⟩ = some (.int .i64 ((rd_T34 l0 x11_1).f1)) ∧ w'.cell? ⟨gb106, 2, none⟩ = some (.int .i64 ((rd_T34 l0 x11_1).f2))) (ds := []) x2tr40_0 (by kernel_rfl) rfl rfl ⟨(blk_cell BK106.out 0).trans rfl, (blk_cell BK106.out 1).trans rfl, (blk_cell BK106.out 2).trans rfl⟩ (fun hHeld => ?_); refine with_tabW locks_Right.tab6 locks_Right.bits6 (fun HT_ HW_ => ?_)
           generalize w59.drew = w60 at BK106 HB hHeld ⊢
           refine pA_ 0 23 x2tr40_1 HT_.out ?_
           refine take_ (i := 1) (N := some 24) (v := ?_) (a' := ?_) x2tr40_2 rfl rfl (take_ofW HT_.out HW_.out (by kernel_rfl)) (fun _ _ _ h => h) (Or.inl ⟨by rfl, ?_⟩) hHeld ?_ ?_
           rotate_left
           ·rintro w' ⟨s0, s1, s2⟩
            go_simp
            with_reducible rfl
           rotate_left
           ·simp only [Act.put, List.setIfInBounds_toArray, List.set_cons_zero, List.set_cons_succ, i64_w, i32_w]
            rfl
           refine one_ (i := 2) (N := some 25) x2tr40_3 rfl rfl (one_of HT_.out (by kernel_rfl)) (by decide) (fun K hK => ?_)
           refine goes_ Try.func21 (by kernel_rfl) rfl #[.string ((rd_T34 l0 x11_1).f0)] (by rfl) rfl rfl (by (try simp only [List.map_toArray, List.map_cons, List.map_nil]); first | done | rfl | (simp only [List.length_drop, List.length_take]; rfl)) ?_
           with_reducible refine (path_Right.calls ((rd_T34 l0 x11_1).f0) true _ A6.out).mono ?_
           rintro e w61 ⟨rfl, hb⟩
           refine ⟨_, rfl, ?_⟩
           have n0_ := Aside0.mk (blk_below (g := gb106) (o := .cells #[.string ((rd_T34 l0 x11_1).f0), .int .i64 ((rd_T34 l0 x11_1).f1), .int .i64 ((rd_T34 l0 x11_1).f2)] 34 (0, 0)) (kB BK106) hb)
           have n1_ := Aside0.mk (below_step (kZ HB) hb)
           clear BK106
           clear HB
           have BK106 := n0_
           have HB := n1_
           clear n0_ n1_
           (try clear hb)
           (try clear hb2)
           (try clear hk)
           (try clear hi)
           refine hK.out _ _ ⟨(blk_cell BK106.out 0).trans rfl, (blk_cell BK106.out 1).trans rfl, (blk_cell BK106.out 2).trans rfl⟩ (fun hHeld => ?_)
           clear hK K
           refine norm_ (a' := ?_) ?_ ?_
           rotate_left
           ·show Act.put _ (some 25) _ = _
            simp only [Act.put, List.setIfInBounds_toArray, List.set_cons_zero, List.set_cons_succ, i64_w, i32_w]
            rfl
           refine pA_ 3 26 x2tr40_4 HT_.out ?_
           refine pA_ 4 27 x2tr40_5 HT_.out ?_
           refine pA_ 5 28 x2tr40_6 HT_.out ?_
           refine take_ (i := 6) (N := some 29) (v := ?_) (a' := ?_) x2tr40_7 rfl rfl (take_ofW HT_.out HW_.out (by kernel_rfl)) (fun _ _ _ h => h) (Or.inl ⟨by rfl, ?_⟩) hHeld ?_ ?_
           rotate_left
           ·rintro w' ⟨s0, s1, s2⟩
            go_simp
            with_reducible rfl
           rotate_left
           ·simp only [Act.put, List.setIfInBounds_toArray, List.set_cons_zero, List.set_cons_succ, i64_w, i32_w]
            rfl
           refine one_ (i := 7) (N := some 30) x2tr40_8 rfl rfl (one_of HT_.out (by kernel_rfl)) (by decide) (fun K hK => ?_)
           refine goes_ Try.func24 (by kernel_rfl) rfl #[.int .i64 ((rd_T34 l0 x11_1).f1)] (by rfl) rfl rfl (by (try simp only [List.map_toArray, List.map_cons, List.map_nil]); first | done | rfl | (simp only [List.length_drop, List.length_take]; rfl)) ?_
           with_reducible refine (locks_number.calls ((rd_T34 l0 x11_1).f1) true _ A8.out).mono ?_
           rintro e w' ⟨rfl, ⟨nd, rfl⟩⟩
           refine ⟨_, rfl, ?_⟩
           refine hK.out _ _ ⟨(blk_cell BK106.out 0).trans rfl, (blk_cell BK106.out 1).trans rfl, (blk_cell BK106.out 2).trans rfl⟩ (fun hHeld => ?_)
           clear hK K
           refine norm_ (a' := ?_) ?_ ?_
           rotate_left
           ·show Act.put _ (some 30) _ = _
            simp only [Act.put, List.setIfInBounds_toArray, List.set_cons_zero, List.set_cons_succ, i64_w, i32_w]
            rfl
           refine pA_ 8 31 x2tr40_9 HT_.out ?_
           refine pA_ 9 32 x2tr40_10 HT_.out ?_
           refine pA_ 10 33 x2tr40_11 HT_.out ?_
           refine pA_ 11 34 x2tr40_12 HT_.out ?_
           refine take_ (i := 12) (N := some 35) (v := ?_) (a' := ?_) x2tr40_13 rfl rfl (take_ofW HT_.out HW_.out (by kernel_rfl)) (fun _ _ _ h => h) (Or.inl ⟨by rfl, ?_⟩) hHeld ?_ ?_
           rotate_left
           ·rintro w' ⟨s0, s1, s2⟩
            go_simp
            with_reducible rfl
           rotate_left
           ·simp only [Act.put, List.setIfInBounds_toArray, List.set_cons_zero, List.set_cons_succ, i64_w, i32_w]
            rfl
           refine one_ (i := 13) (N := some 36) x2tr40_14 rfl rfl (one_of HT_.out (by kernel_rfl)) (by decide) (fun K hK => ?_)
           refine goes_ Try.func24 (by kernel_rfl) rfl #[.int .i64 ((rd_T34 l0 x11_1).f2)] (by rfl) rfl rfl (by (try simp only [List.map_toArray, List.map_cons, List.map_nil]); first | done | rfl | (simp only [List.length_drop, List.length_take]; rfl)) ?_
           with_reducible refine (locks_number.calls ((rd_T34 l0 x11_1).f2) true _ A10.out).mono ?_
           rintro e w' ⟨rfl, ⟨nd, rfl⟩⟩
           refine ⟨_, rfl, ?_⟩
           refine hK.out _ _ ⟨(blk_cell BK106.out 0).trans rfl, (blk_cell BK106.out 1).trans rfl, (blk_cell BK106.out 2).trans rfl⟩ (fun hHeld => ?_)
           clear hK K
           refine norm_ (a' := ?_) ?_ ?_
           rotate_left
           ·show Act.put _ (some 36) _ = _
            simp only [Act.put, List.setIfInBounds_toArray, List.set_cons_zero, List.set_cons_succ, i64_w, i32_w]
            rfl
           refine pA_ 14 37 x2tr40_15 HT_.out ?_
           refine pA_ 15 38 x2tr40_16 HT_.out ?_
           refine pA_ 16 39 x2tr40_17 HT_.out ?_
           refine pA_ 17 40 x2tr40_18 HT_.out ?_
           refine pA_ 18 41 x2tr40_19 HT_.out ?_
           refine pU_ 19 42 x2tr40_20 HT_.out ?_
           refine pU_ 20 43 x2tr40_21 HT_.out ?_
           refine pU_ 21 44 x2tr40_22 HT_.out ?_
           refine pU_ 22 45 x2tr40_23 HT_.out ?_
           refine pA_ 23 46 x2tr40_24 HT_.out ?_
           refine pA_ 24 47 x2tr40_25 HT_.out ?_
           refine pA_ 25 48 x2tr40_26 HT_.out ?_
           refine pA_ 26 49 x2tr40_27 HT_.out ?_
           refine pA_ 27 50 x2tr40_28 HT_.out ?_
           refine pA_ 28 51 x2tr40_29 HT_.out ?_
           refine pU_ 29 52 x2tr40_30 HT_.out ?_
           refine pU_ 30 53 x2tr40_31 HT_.out ?_
           refine pU_ 31 54 x2tr40_32 HT_.out ?_
           refine pU_ 32 55 x2tr40_33 HT_.out ?_
           refine pU_ 33 56 x2tr40_34 HT_.out ?_
           refine pU_ 34 57 x2tr40_35 HT_.out ?_
           refine pU_ 35 58 x2tr40_36 HT_.out ?_
           refine pU_ 36 59 x2tr40_37 HT_.out ?_
           refine pU_ 37 60 x2tr40_38 HT_.out ?_
           refine pA_ 38 61 x2tr40_39 HT_.out ?_
           refine pA_ 39 62 x2tr40_40 HT_.out ?_
           refine done_ (done_of HT_.out (by kernel_rfl)) ?_
           have hcz62_0 : w61.cell? ⟨gb106, 0, none⟩ = some (.string ((rd_T34 l0 x11_1).f0)) := (blk_cell BK106.out 0).trans rfl
           have hcz62_1 : w61.cell? ⟨gb106, 1, none⟩ = some (.int .i64 ((rd_T34 l0 x11_1).f1)) := (blk_cell BK106.out 1).trans rfl
           have hcz62_2 : w61.cell? ⟨gb106, 2, none⟩ = some (.int .i64 ((rd_T34 l0 x11_1).f2)) := (blk_cell BK106.out 2).trans rfl
           have hfz62_0 := blk_frozen BK106.out 0
           have hfz62_1 := blk_frozen BK106.out 1
           have hfz62_2 := blk_frozen BK106.out 2
           go_wp2_with (at_mapUpdate; refine upd_step rfl _ _ _ rfl rfl (om_below HM.out (kZ HB)) (nb HL.out c2b0) rfl rfl (wf1 HWF.out x11_1) (wf2 HWF.out x11_1) ?_; intro w9 hown9 hgr9)
           go_roundg k1
           case measure => have := HK1.out; omega
           case rel => exact ⟨(wrap64 (x11_1 + 1)), putD D_1 (rd_T34 l0 x11_1), (by first | rfl | (simp; done) | (simp [*]; done)), H', ⟨by have := HK1.out; omega⟩, ⟨below_put HB0.out (kZ HB) hgr9⟩, ⟨om_next HL.out c2b0 c3b0 hown9⟩⟩
        ·replace c11 := Bool.eq_false_iff.mpr c11
         subst c11
         have H1 : (some false) = some r := by rw [if_neg (show ¬ (false = true) by decide)] at H; exact H
         clear H
         have H := H1
         clear H1
         obtain rfl := Option.some.inj H
         have p105 : 0 ≤ (x11_1 : Int) := of_decide_eq_true (by first | (with_reducible assumption) | assumption)
         have q105 : x11_1 < (l0.length : Int) := of_decide_eq_true (by first | (with_reducible assumption) | assumption)
         obtain ⟨ad105, e105, hx105_0, hx105_1, hx105_2⟩ := at_T34 HR0.out x11_1 p105 q105
         cases e105
         replace hx105_0 := (HB.out.cell (World.block_lt_of_cell? wr _ hx105_0)).trans hx105_0
         replace hx105_1 := (HB.out.cell (World.block_lt_of_cell? wr _ hx105_1)).trans hx105_1
         replace hx105_2 := (HB.out.cell (World.block_lt_of_cell? wr _ hx105_2)).trans hx105_2
         replace p105 := eq_true p105
         replace q105 := eq_true q105
         try go_wp2_with (first | ((with_reducible refine gate_dst (N := 5) rfl ?_); refine box_event ?hg (N := 5) ?hd (cs := #[.string (⟨#[]⟩ : ByteArray), .int .i64 0, .int .i64 0]) (t := 34) ?hr ?_; (case hd => rfl); (case hg => rfl); (case hr => first | (go_simp; done) | (go_simp; rfl)); intro gb106 hg w63 hbox hb; have n0_ := Aside0.mk (below_step (kZ HB) hb); have n1_ := Aside0.mk (hbox); have n2_ := Aside0.mk ((by rw [hg]; exact (below_size (kZ HB)) : wr.heap.size ≤ gb106)); have n3_ := Aside0.mk ((by rw [hg]; exact (below_size (kZ HB)) : wr.heap.size ≤ gb106)); clear HB; have HB := n0_; have BK106 := n1_; have GW106 := n2_; have GE106 := n3_; clear n0_ n1_ n2_ n3_; clear hb hbox hg; have hcz64_0 : w63.cell? ⟨gb106, 0, none⟩ = some (.string (⟨#[]⟩ : ByteArray)) := (blk_cell BK106.out 0).trans rfl; have hcz64_1 : w63.cell? ⟨gb106, 1, none⟩ = some (.int .i64 0) := (blk_cell BK106.out 1).trans rfl; have hcz64_2 : w63.cell? ⟨gb106, 2, none⟩ = some (.int .i64 0) := (blk_cell BK106.out 2).trans rfl; have hfz64_0 := blk_frozen BK106.out 0; have hfz64_1 := blk_frozen BK106.out 1; have hfz64_2 := blk_frozen BK106.out 2) | (at_lookup; refine look_step rfl _ _ rfl rfl (om_below HM.out (kZ HB)) rfl (wf1 HWF.out x11_1) A5.out ?_))
         have n0_ : Aside0 ((((w63.setCell ⟨gb106, 0, none⟩ (.string ((rd_T34 l0 x11_1).f0))).setCell ⟨gb106, 1, none⟩ (.int .i64 ((rd_T34 l0 x11_1).f1))).setCell ⟨gb106, 2, none⟩ (.int .i64 ((rd_T34 l0 x11_1).f2))).heap[gb106]? = some (.cells #[.string ((rd_T34 l0 x11_1).f0), .int .i64 ((rd_T34 l0 x11_1).f1), .int .i64 ((rd_T34 l0 x11_1).f2)] 34 (0, 0))) := ⟨by (with_reducible repeat (first | refine blk_drewN ?_ _ | refine blk_drew ?_ | refine blk_alloc ?_ _)); refine blk_put (cs := #[.string ((rd_T34 l0 x11_1).f0), .int .i64 ((rd_T34 l0 x11_1).f1), .int .i64 0]) ?_ 2 _ rfl; (with_reducible repeat (first | refine blk_drewN ?_ _ | refine blk_drew ?_ | refine blk_alloc ?_ _)); refine blk_put (cs := #[.string ((rd_T34 l0 x11_1).f0), .int .i64 0, .int .i64 0]) ?_ 1 _ rfl; (with_reducible repeat (first | refine blk_drewN ?_ _ | refine blk_drew ?_ | refine blk_alloc ?_ _)); refine blk_put (cs := #[.string (⟨#[]⟩ : ByteArray), .int .i64 0, .int .i64 0]) ?_ 0 _ rfl; (with_reducible repeat (first | refine blk_drewN ?_ _ | refine blk_drew ?_ | refine blk_alloc ?_ _)); exact BK106.out⟩
         have n1_ : Aside0 (Below wr.heap.size wr (((w63.setCell ⟨gb106, 0, none⟩ (.string ((rd_T34 l0 x11_1).f0))).setCell ⟨gb106, 1, none⟩ (.int .i64 ((rd_T34 l0 x11_1).f1))).setCell ⟨gb106, 2, none⟩ (.int .i64 ((rd_T34 l0 x11_1).f2)))) := ⟨kZ HB⟩
         (try clear BK106)
         (try clear HB)
         generalize (((w63.setCell ⟨gb106, 0, none⟩ (.string ((rd_T34 l0 x11_1).f0))).setCell ⟨gb106, 1, none⟩ (.int .i64 ((rd_T34 l0 x11_1).f1))).setCell ⟨gb106, 2, none⟩ (.int .i64 ((rd_T34 l0 x11_1).f2))) = w65 at n0_ n1_ ⊢
         have BK106 := n0_
         have HB := n1_
         clear n0_ n1_
         (try (rw [drewN_self w65]; generalize hq_ : World.drewN w65 _ = w65; have n0_ : Aside0 (w65.heap[gb106]? = some (.cells #[.string ((rd_T34 l0 x11_1).f0), .int .i64 ((rd_T34 l0 x11_1).f1), .int .i64 ((rd_T34 l0 x11_1).f2)] 34 (0, 0))) := ⟨by rw [← hq_]; exact (kB BK106)⟩; have n1_ : Aside0 (Below wr.heap.size wr w65) := ⟨by rw [← hq_]; exact (kZ HB)⟩; clear BK106 HB hq_; have BK106 := n0_; have HB := n1_; clear n0_ n1_))
         have n0_ := Aside0.mk (blk_drew BK106.out)
         have n1_ := Aside0.mk (below_drew1 HB.out)
         clear BK106
         clear HB
         have BK106 := n0_
         have HB := n1_
         clear n0_ n1_
         refine start_ (n := 40) (S := fun w' => w'.cell? ⟨gb106, 0, none⟩ = some (.string ((rd_T34 l0 x11_1).f0)) ∧ w'.cell? ⟨gb106, 1, none⟩ = some (.int .i64 ((rd_T34 l0 x11_1).f1)) ∧ w'.cell? ⟨gb106, 2, none⟩ = some (.int .i64 ((rd_T34 l0 x11_1).f2))) (ds := []) x2tr40_0 (by kernel_rfl) rfl rfl ⟨(blk_cell BK106.out 0).trans rfl, (blk_cell BK106.out 1).trans rfl, (blk_cell BK106.out 2).trans rfl⟩ (fun hHeld => ?_); refine with_tabW locks_Right.tab6 locks_Right.bits6 (fun HT_ HW_ => ?_)
         generalize w65.drew = w66 at BK106 HB hHeld ⊢
         refine pA_ 0 23 x2tr40_1 HT_.out ?_
         refine take_ (i := 1) (N := some 24) (v := ?_) (a' := ?_) x2tr40_2 rfl rfl (take_ofW HT_.out HW_.out (by kernel_rfl)) (fun _ _ _ h => h) (Or.inl ⟨by rfl, ?_⟩) hHeld ?_ ?_
         rotate_left
         ·rintro w' ⟨s0, s1, s2⟩
          go_simp
          with_reducible rfl
         rotate_left
         ·simp only [Act.put, List.setIfInBounds_toArray, List.set_cons_zero, List.set_cons_succ, i64_w, i32_w]
          rfl
         refine one_ (i := 2) (N := some 25) x2tr40_3 rfl rfl (one_of HT_.out (by kernel_rfl)) (by decide) (fun K hK => ?_)
         refine goes_ Try.func21 (by kernel_rfl) rfl #[.string ((rd_T34 l0 x11_1).f0)] (by rfl) rfl rfl (by (try simp only [List.map_toArray, List.map_cons, List.map_nil]); first | done | rfl | (simp only [List.length_drop, List.length_take]; rfl)) ?_
         with_reducible refine (path_Right.calls ((rd_T34 l0 x11_1).f0) true _ A6.out).mono ?_
         rintro e w67 ⟨rfl, hb⟩
         refine ⟨_, rfl, ?_⟩
         have n0_ := Aside0.mk (blk_below (g := gb106) (o := .cells #[.string ((rd_T34 l0 x11_1).f0), .int .i64 ((rd_T34 l0 x11_1).f1), .int .i64 ((rd_T34 l0 x11_1).f2)] 34 (0, 0)) (kB BK106) hb)
         have n1_ := Aside0.mk (below_step (kZ HB) hb)
         clear BK106
         clear HB
         have BK106 := n0_
         have HB := n1_
         clear n0_ n1_
         (try clear hb)
         (try clear hb2)
         (try clear hk)
         (try clear hi)
         refine hK.out _ _ ⟨(blk_cell BK106.out 0).trans rfl, (blk_cell BK106.out 1).trans rfl, (blk_cell BK106.out 2).trans rfl⟩ (fun hHeld => ?_)
         clear hK K
         refine norm_ (a' := ?_) ?_ ?_
         rotate_left
         ·show Act.put _ (some 25) _ = _
          simp only [Act.put, List.setIfInBounds_toArray, List.set_cons_zero, List.set_cons_succ, i64_w, i32_w]
          rfl
         refine pA_ 3 26 x2tr40_4 HT_.out ?_
         refine pA_ 4 27 x2tr40_5 HT_.out ?_
         refine pA_ 5 28 x2tr40_6 HT_.out ?_
         refine take_ (i := 6) (N := some 29) (v := ?_) (a' := ?_) x2tr40_7 rfl rfl (take_ofW HT_.out HW_.out (by kernel_rfl)) (fun _ _ _ h => h) (Or.inl ⟨by rfl, ?_⟩) hHeld ?_ ?_
         rotate_left
         ·rintro w' ⟨s0, s1, s2⟩
          go_simp
          with_reducible rfl
         rotate_left
         ·simp only [Act.put, List.setIfInBounds_toArray, List.set_cons_zero, List.set_cons_succ, i64_w, i32_w]
          rfl
         refine one_ (i := 7) (N := some 30) x2tr40_8 rfl rfl (one_of HT_.out (by kernel_rfl)) (by decide) (fun K hK => ?_)
         refine goes_ Try.func24 (by kernel_rfl) rfl #[.int .i64 ((rd_T34 l0 x11_1).f1)] (by rfl) rfl rfl (by (try simp only [List.map_toArray, List.map_cons, List.map_nil]); first | done | rfl | (simp only [List.length_drop, List.length_take]; rfl)) ?_
         with_reducible refine (locks_number.calls ((rd_T34 l0 x11_1).f1) true _ A8.out).mono ?_
         rintro e w' ⟨rfl, ⟨nd, rfl⟩⟩
         refine ⟨_, rfl, ?_⟩
         refine hK.out _ _ ⟨(blk_cell BK106.out 0).trans rfl, (blk_cell BK106.out 1).trans rfl, (blk_cell BK106.out 2).trans rfl⟩ (fun hHeld => ?_)
         clear hK K
         refine norm_ (a' := ?_) ?_ ?_
         rotate_left
         ·show Act.put _ (some 30) _ = _
          simp only [Act.put, List.setIfInBounds_toArray, List.set_cons_zero, List.set_cons_succ, i64_w, i32_w]
          rfl
         refine pA_ 8 31 x2tr40_9 HT_.out ?_
         refine pA_ 9 32 x2tr40_10 HT_.out ?_
         refine pA_ 10 33 x2tr40_11 HT_.out ?_
         refine pA_ 11 34 x2tr40_12 HT_.out ?_
         refine take_ (i := 12) (N := some 35) (v := ?_) (a' := ?_) x2tr40_13 rfl rfl (take_ofW HT_.out HW_.out (by kernel_rfl)) (fun _ _ _ h => h) (Or.inl ⟨by rfl, ?_⟩) hHeld ?_ ?_
         rotate_left
         ·rintro w' ⟨s0, s1, s2⟩
          go_simp
          with_reducible rfl
         rotate_left
         ·simp only [Act.put, List.setIfInBounds_toArray, List.set_cons_zero, List.set_cons_succ, i64_w, i32_w]
          rfl
         refine one_ (i := 13) (N := some 36) x2tr40_14 rfl rfl (one_of HT_.out (by kernel_rfl)) (by decide) (fun K hK => ?_)
         refine goes_ Try.func24 (by kernel_rfl) rfl #[.int .i64 ((rd_T34 l0 x11_1).f2)] (by rfl) rfl rfl (by (try simp only [List.map_toArray, List.map_cons, List.map_nil]); first | done | rfl | (simp only [List.length_drop, List.length_take]; rfl)) ?_
         with_reducible refine (locks_number.calls ((rd_T34 l0 x11_1).f2) false _ A10.out).mono ?_
         rintro e w' ⟨rfl, ⟨nd, rfl⟩⟩
         refine ⟨_, rfl, ?_⟩
         refine hK.out _ _ ⟨(blk_cell BK106.out 0).trans rfl, (blk_cell BK106.out 1).trans rfl, (blk_cell BK106.out 2).trans rfl⟩ (fun hHeld => ?_)
         clear hK K
         refine norm_ (a' := ?_) ?_ ?_
         rotate_left
         ·show Act.put _ (some 36) _ = _
          simp only [Act.put, List.setIfInBounds_toArray, List.set_cons_zero, List.set_cons_succ, i64_w, i32_w]
          rfl
         refine pA_ 14 37 x2tr40_15 HT_.out ?_
         refine pA_ 15 38 x2tr40_16 HT_.out ?_
         refine pA_ 16 39 x2tr40_17 HT_.out ?_
         refine pU_ 17 40 x2tr40_18 HT_.out ?_
         refine pU_ 18 41 x2tr40_19 HT_.out ?_
         refine pU_ 19 42 x2tr40_20 HT_.out ?_
         refine pU_ 20 43 x2tr40_21 HT_.out ?_
         refine pU_ 21 44 x2tr40_22 HT_.out ?_
         refine pU_ 22 45 x2tr40_23 HT_.out ?_
         refine pU_ 23 46 x2tr40_24 HT_.out ?_
         refine pA_ 24 47 x2tr40_25 HT_.out ?_
         refine pA_ 25 48 x2tr40_26 HT_.out ?_
         refine pU_ 26 49 x2tr40_27 HT_.out ?_
         refine pU_ 27 50 x2tr40_28 HT_.out ?_
         refine pU_ 28 51 x2tr40_29 HT_.out ?_
         refine pU_ 29 52 x2tr40_30 HT_.out ?_
         refine pU_ 30 53 x2tr40_31 HT_.out ?_
         refine pU_ 31 54 x2tr40_32 HT_.out ?_
         refine pU_ 32 55 x2tr40_33 HT_.out ?_
         refine pU_ 33 56 x2tr40_34 HT_.out ?_
         refine pU_ 34 57 x2tr40_35 HT_.out ?_
         refine pU_ 35 58 x2tr40_36 HT_.out ?_
         refine pU_ 36 59 x2tr40_37 HT_.out ?_
         refine pU_ 37 60 x2tr40_38 HT_.out ?_
         refine pU_ 38 61 x2tr40_39 HT_.out ?_
         refine pA_ 39 62 x2tr40_40 HT_.out ?_
         refine done_ (done_of HT_.out (by kernel_rfl)) ?_
         try go_wp2
         go_ret
         exact ⟨by first | rfl | (simp [errW_none, errW_some] <;> rfl) | (simp [*, errW_none, errW_some] <;> rfl), below_step HB0.out (kZ HB)⟩
       ·replace c9 := Bool.eq_false_iff.mpr c9
        subst c9
        have H1 : (some false) = some r := by rw [if_neg (show ¬ (false = true) by decide)] at H; exact H
        clear H
        have H := H1
        clear H1
        obtain rfl := Option.some.inj H
        have p105 : 0 ≤ (x11_1 : Int) := of_decide_eq_true (by first | (with_reducible assumption) | assumption)
        have q105 : x11_1 < (l0.length : Int) := of_decide_eq_true (by first | (with_reducible assumption) | assumption)
        obtain ⟨ad105, e105, hx105_0, hx105_1, hx105_2⟩ := at_T34 HR0.out x11_1 p105 q105
        cases e105
        replace hx105_0 := (HB.out.cell (World.block_lt_of_cell? wr _ hx105_0)).trans hx105_0
        replace hx105_1 := (HB.out.cell (World.block_lt_of_cell? wr _ hx105_1)).trans hx105_1
        replace hx105_2 := (HB.out.cell (World.block_lt_of_cell? wr _ hx105_2)).trans hx105_2
        replace p105 := eq_true p105
        replace q105 := eq_true q105
        try go_wp2_with (first | ((with_reducible refine gate_dst (N := 5) rfl ?_); refine box_event ?hg (N := 5) ?hd (cs := #[.string (⟨#[]⟩ : ByteArray), .int .i64 0, .int .i64 0]) (t := 34) ?hr ?_; (case hd => rfl); (case hg => rfl); (case hr => first | (go_simp; done) | (go_simp; rfl)); intro gb106 hg w68 hbox hb; have n0_ := Aside0.mk (below_step (kZ HB) hb); have n1_ := Aside0.mk (hbox); have n2_ := Aside0.mk ((by rw [hg]; exact (below_size (kZ HB)) : wr.heap.size ≤ gb106)); have n3_ := Aside0.mk ((by rw [hg]; exact (below_size (kZ HB)) : wr.heap.size ≤ gb106)); clear HB; have HB := n0_; have BK106 := n1_; have GW106 := n2_; have GE106 := n3_; clear n0_ n1_ n2_ n3_; clear hb hbox hg; have hcz69_0 : w68.cell? ⟨gb106, 0, none⟩ = some (.string (⟨#[]⟩ : ByteArray)) := (blk_cell BK106.out 0).trans rfl; have hcz69_1 : w68.cell? ⟨gb106, 1, none⟩ = some (.int .i64 0) := (blk_cell BK106.out 1).trans rfl; have hcz69_2 : w68.cell? ⟨gb106, 2, none⟩ = some (.int .i64 0) := (blk_cell BK106.out 2).trans rfl; have hfz69_0 := blk_frozen BK106.out 0; have hfz69_1 := blk_frozen BK106.out 1; have hfz69_2 := blk_frozen BK106.out 2) | (at_lookup; refine look_step rfl _ _ rfl rfl (om_below HM.out (kZ HB)) rfl (wf1 HWF.out x11_1) A5.out ?_))
        have n0_ : Aside0 ((((w68.setCell ⟨gb106, 0, none⟩ (.string ((rd_T34 l0 x11_1).f0))).setCell ⟨gb106, 1, none⟩ (.int .i64 ((rd_T34 l0 x11_1).f1))).setCell ⟨gb106, 2, none⟩ (.int .i64 ((rd_T34 l0 x11_1).f2))).heap[gb106]? = some (.cells #[.string ((rd_T34 l0 x11_1).f0), .int .i64 ((rd_T34 l0 x11_1).f1), .int .i64 ((rd_T34 l0 x11_1).f2)] 34 (0, 0))) := ⟨by (with_reducible repeat (first | refine blk_drewN ?_ _ | refine blk_drew ?_ | refine blk_alloc ?_ _)); refine blk_put (cs := #[.string ((rd_T34 l0 x11_1).f0), .int .i64 ((rd_T34 l0 x11_1).f1), .int .i64 0]) ?_ 2 _ rfl; (with_reducible repeat (first | refine blk_drewN ?_ _ | refine blk_drew ?_ | refine blk_alloc ?_ _)); refine blk_put (cs := #[.string ((rd_T34 l0 x11_1).f0), .int .i64 0, .int .i64 0]) ?_ 1 _ rfl; (with_reducible repeat (first | refine blk_drewN ?_ _ | refine blk_drew ?_ | refine blk_alloc ?_ _)); refine blk_put (cs := #[.string (⟨#[]⟩ : ByteArray), .int .i64 0, .int .i64 0]) ?_ 0 _ rfl; (with_reducible repeat (first | refine blk_drewN ?_ _ | refine blk_drew ?_ | refine blk_alloc ?_ _)); exact BK106.out⟩
        have n1_ : Aside0 (Below wr.heap.size wr (((w68.setCell ⟨gb106, 0, none⟩ (.string ((rd_T34 l0 x11_1).f0))).setCell ⟨gb106, 1, none⟩ (.int .i64 ((rd_T34 l0 x11_1).f1))).setCell ⟨gb106, 2, none⟩ (.int .i64 ((rd_T34 l0 x11_1).f2)))) := ⟨kZ HB⟩
        (try clear BK106)
        (try clear HB)
        generalize (((w68.setCell ⟨gb106, 0, none⟩ (.string ((rd_T34 l0 x11_1).f0))).setCell ⟨gb106, 1, none⟩ (.int .i64 ((rd_T34 l0 x11_1).f1))).setCell ⟨gb106, 2, none⟩ (.int .i64 ((rd_T34 l0 x11_1).f2))) = w70 at n0_ n1_ ⊢
        have BK106 := n0_
        have HB := n1_
        clear n0_ n1_
        (try (rw [drewN_self w70]; generalize hq_ : World.drewN w70 _ = w70; have n0_ : Aside0 (w70.heap[gb106]? = some (.cells #[.string ((rd_T34 l0 x11_1).f0), .int .i64 ((rd_T34 l0 x11_1).f1), .int .i64 ((rd_T34 l0 x11_1).f2)] 34 (0, 0))) := ⟨by rw [← hq_]; exact (kB BK106)⟩; have n1_ : Aside0 (Below wr.heap.size wr w70) := ⟨by rw [← hq_]; exact (kZ HB)⟩; clear BK106 HB hq_; have BK106 := n0_; have HB := n1_; clear n0_ n1_))
        have n0_ := Aside0.mk (blk_drew BK106.out)
        have n1_ := Aside0.mk (below_drew1 HB.out)
        clear BK106
        clear HB
        have BK106 := n0_
        have HB := n1_
        clear n0_ n1_
        refine start_ (n := 40) (S := fun w' => w'.cell? ⟨gb106, 0, none⟩ = some (.string ((rd_T34 l0 x11_1).f0)) ∧ w'.cell? ⟨gb106, 1, none⟩ = some (.int .i64 ((rd_T34 l0 x11_1).f1)) ∧ w'.cell? ⟨gb106, 2, none⟩ = some (.int .i64 ((rd_T34 l0 x11_1).f2))) (ds := []) x2tr40_0 (by kernel_rfl) rfl rfl ⟨(blk_cell BK106.out 0).trans rfl, (blk_cell BK106.out 1).trans rfl, (blk_cell BK106.out 2).trans rfl⟩ (fun hHeld => ?_); refine with_tabW locks_Right.tab6 locks_Right.bits6 (fun HT_ HW_ => ?_)
        generalize w70.drew = w71 at BK106 HB hHeld ⊢
        refine pA_ 0 23 x2tr40_1 HT_.out ?_
        refine take_ (i := 1) (N := some 24) (v := ?_) (a' := ?_) x2tr40_2 rfl rfl (take_ofW HT_.out HW_.out (by kernel_rfl)) (fun _ _ _ h => h) (Or.inl ⟨by rfl, ?_⟩) hHeld ?_ ?_
        rotate_left
        ·rintro w' ⟨s0, s1, s2⟩
         go_simp
         with_reducible rfl
        rotate_left
        ·simp only [Act.put, List.setIfInBounds_toArray, List.set_cons_zero, List.set_cons_succ, i64_w, i32_w]
         rfl
        refine one_ (i := 2) (N := some 25) x2tr40_3 rfl rfl (one_of HT_.out (by kernel_rfl)) (by decide) (fun K hK => ?_)
        refine goes_ Try.func21 (by kernel_rfl) rfl #[.string ((rd_T34 l0 x11_1).f0)] (by rfl) rfl rfl (by (try simp only [List.map_toArray, List.map_cons, List.map_nil]); first | done | rfl | (simp only [List.length_drop, List.length_take]; rfl)) ?_
        with_reducible refine (path_Right.calls ((rd_T34 l0 x11_1).f0) true _ A6.out).mono ?_
        rintro e w72 ⟨rfl, hb⟩
        refine ⟨_, rfl, ?_⟩
        have n0_ := Aside0.mk (blk_below (g := gb106) (o := .cells #[.string ((rd_T34 l0 x11_1).f0), .int .i64 ((rd_T34 l0 x11_1).f1), .int .i64 ((rd_T34 l0 x11_1).f2)] 34 (0, 0)) (kB BK106) hb)
        have n1_ := Aside0.mk (below_step (kZ HB) hb)
        clear BK106
        clear HB
        have BK106 := n0_
        have HB := n1_
        clear n0_ n1_
        (try clear hb)
        (try clear hb2)
        (try clear hk)
        (try clear hi)
        refine hK.out _ _ ⟨(blk_cell BK106.out 0).trans rfl, (blk_cell BK106.out 1).trans rfl, (blk_cell BK106.out 2).trans rfl⟩ (fun hHeld => ?_)
        clear hK K
        refine norm_ (a' := ?_) ?_ ?_
        rotate_left
        ·show Act.put _ (some 25) _ = _
         simp only [Act.put, List.setIfInBounds_toArray, List.set_cons_zero, List.set_cons_succ, i64_w, i32_w]
         rfl
        refine pA_ 3 26 x2tr40_4 HT_.out ?_
        refine pA_ 4 27 x2tr40_5 HT_.out ?_
        refine pA_ 5 28 x2tr40_6 HT_.out ?_
        refine take_ (i := 6) (N := some 29) (v := ?_) (a' := ?_) x2tr40_7 rfl rfl (take_ofW HT_.out HW_.out (by kernel_rfl)) (fun _ _ _ h => h) (Or.inl ⟨by rfl, ?_⟩) hHeld ?_ ?_
        rotate_left
        ·rintro w' ⟨s0, s1, s2⟩
         go_simp
         with_reducible rfl
        rotate_left
        ·simp only [Act.put, List.setIfInBounds_toArray, List.set_cons_zero, List.set_cons_succ, i64_w, i32_w]
         rfl
        refine one_ (i := 7) (N := some 30) x2tr40_8 rfl rfl (one_of HT_.out (by kernel_rfl)) (by decide) (fun K hK => ?_)
        refine goes_ Try.func24 (by kernel_rfl) rfl #[.int .i64 ((rd_T34 l0 x11_1).f1)] (by rfl) rfl rfl (by (try simp only [List.map_toArray, List.map_cons, List.map_nil]); first | done | rfl | (simp only [List.length_drop, List.length_take]; rfl)) ?_
        with_reducible refine (locks_number.calls ((rd_T34 l0 x11_1).f1) false _ A8.out).mono ?_
        rintro e w' ⟨rfl, ⟨nd, rfl⟩⟩
        refine ⟨_, rfl, ?_⟩
        refine hK.out _ _ ⟨(blk_cell BK106.out 0).trans rfl, (blk_cell BK106.out 1).trans rfl, (blk_cell BK106.out 2).trans rfl⟩ (fun hHeld => ?_)
        clear hK K
        refine norm_ (a' := ?_) ?_ ?_
        rotate_left
        ·show Act.put _ (some 30) _ = _
         simp only [Act.put, List.setIfInBounds_toArray, List.set_cons_zero, List.set_cons_succ, i64_w, i32_w]
         rfl
        refine pA_ 8 31 x2tr40_9 HT_.out ?_
        refine pA_ 9 32 x2tr40_10 HT_.out ?_
        refine pA_ 10 33 x2tr40_11 HT_.out ?_
        refine pU_ 11 34 x2tr40_12 HT_.out ?_
        refine pU_ 12 35 x2tr40_13 HT_.out ?_
        refine pU_ 13 36 x2tr40_14 HT_.out ?_
        refine pU_ 14 37 x2tr40_15 HT_.out ?_
        refine pA_ 15 38 x2tr40_16 HT_.out ?_
        refine pA_ 16 39 x2tr40_17 HT_.out ?_
        refine pU_ 17 40 x2tr40_18 HT_.out ?_
        refine pU_ 18 41 x2tr40_19 HT_.out ?_
        refine pU_ 19 42 x2tr40_20 HT_.out ?_
        refine pU_ 20 43 x2tr40_21 HT_.out ?_
        refine pU_ 21 44 x2tr40_22 HT_.out ?_
        refine pU_ 22 45 x2tr40_23 HT_.out ?_
        refine pU_ 23 46 x2tr40_24 HT_.out ?_
        refine pA_ 24 47 x2tr40_25 HT_.out ?_
        refine pA_ 25 48 x2tr40_26 HT_.out ?_
        refine pU_ 26 49 x2tr40_27 HT_.out ?_
        refine pU_ 27 50 x2tr40_28 HT_.out ?_
        refine pU_ 28 51 x2tr40_29 HT_.out ?_
        refine pU_ 29 52 x2tr40_30 HT_.out ?_
        refine pU_ 30 53 x2tr40_31 HT_.out ?_
        refine pU_ 31 54 x2tr40_32 HT_.out ?_
        refine pU_ 32 55 x2tr40_33 HT_.out ?_
        refine pU_ 33 56 x2tr40_34 HT_.out ?_
        refine pU_ 34 57 x2tr40_35 HT_.out ?_
        refine pU_ 35 58 x2tr40_36 HT_.out ?_
        refine pU_ 36 59 x2tr40_37 HT_.out ?_
        refine pU_ 37 60 x2tr40_38 HT_.out ?_
        refine pU_ 38 61 x2tr40_39 HT_.out ?_
        refine pA_ 39 62 x2tr40_40 HT_.out ?_
        refine done_ (done_of HT_.out (by kernel_rfl)) ?_
        try go_wp2
        go_ret
        exact ⟨by first | rfl | (simp [errW_none, errW_some] <;> rfl) | (simp [*, errW_none, errW_some] <;> rfl), below_step HB0.out (kZ HB)⟩
      ·replace c7 := Bool.eq_false_iff.mpr c7
       subst c7
       have H1 : (some false) = some r := by rw [if_neg (show ¬ (false = true) by decide)] at H; exact H
       clear H
       have H := H1
       clear H1
       obtain rfl := Option.some.inj H
       have p105 : 0 ≤ (x11_1 : Int) := of_decide_eq_true (by first | (with_reducible assumption) | assumption)
       have q105 : x11_1 < (l0.length : Int) := of_decide_eq_true (by first | (with_reducible assumption) | assumption)
       obtain ⟨ad105, e105, hx105_0, hx105_1, hx105_2⟩ := at_T34 HR0.out x11_1 p105 q105
       cases e105
       replace hx105_0 := (HB.out.cell (World.block_lt_of_cell? wr _ hx105_0)).trans hx105_0
       replace hx105_1 := (HB.out.cell (World.block_lt_of_cell? wr _ hx105_1)).trans hx105_1
       replace hx105_2 := (HB.out.cell (World.block_lt_of_cell? wr _ hx105_2)).trans hx105_2
       replace p105 := eq_true p105
       replace q105 := eq_true q105
       try go_wp2_with (first | ((with_reducible refine gate_dst (N := 5) rfl ?_); refine box_event ?hg (N := 5) ?hd (cs := #[.string (⟨#[]⟩ : ByteArray), .int .i64 0, .int .i64 0]) (t := 34) ?hr ?_; (case hd => rfl); (case hg => rfl); (case hr => first | (go_simp; done) | (go_simp; rfl)); intro gb106 hg w73 hbox hb; have n0_ := Aside0.mk (below_step (kZ HB) hb); have n1_ := Aside0.mk (hbox); have n2_ := Aside0.mk ((by rw [hg]; exact (below_size (kZ HB)) : wr.heap.size ≤ gb106)); have n3_ := Aside0.mk ((by rw [hg]; exact (below_size (kZ HB)) : wr.heap.size ≤ gb106)); clear HB; have HB := n0_; have BK106 := n1_; have GW106 := n2_; have GE106 := n3_; clear n0_ n1_ n2_ n3_; clear hb hbox hg; have hcz74_0 : w73.cell? ⟨gb106, 0, none⟩ = some (.string (⟨#[]⟩ : ByteArray)) := (blk_cell BK106.out 0).trans rfl; have hcz74_1 : w73.cell? ⟨gb106, 1, none⟩ = some (.int .i64 0) := (blk_cell BK106.out 1).trans rfl; have hcz74_2 : w73.cell? ⟨gb106, 2, none⟩ = some (.int .i64 0) := (blk_cell BK106.out 2).trans rfl; have hfz74_0 := blk_frozen BK106.out 0; have hfz74_1 := blk_frozen BK106.out 1; have hfz74_2 := blk_frozen BK106.out 2) | (at_lookup; refine look_step rfl _ _ rfl rfl (om_below HM.out (kZ HB)) rfl (wf1 HWF.out x11_1) A5.out ?_))
       have n0_ : Aside0 ((((w73.setCell ⟨gb106, 0, none⟩ (.string ((rd_T34 l0 x11_1).f0))).setCell ⟨gb106, 1, none⟩ (.int .i64 ((rd_T34 l0 x11_1).f1))).setCell ⟨gb106, 2, none⟩ (.int .i64 ((rd_T34 l0 x11_1).f2))).heap[gb106]? = some (.cells #[.string ((rd_T34 l0 x11_1).f0), .int .i64 ((rd_T34 l0 x11_1).f1), .int .i64 ((rd_T34 l0 x11_1).f2)] 34 (0, 0))) := ⟨by (with_reducible repeat (first | refine blk_drewN ?_ _ | refine blk_drew ?_ | refine blk_alloc ?_ _)); refine blk_put (cs := #[.string ((rd_T34 l0 x11_1).f0), .int .i64 ((rd_T34 l0 x11_1).f1), .int .i64 0]) ?_ 2 _ rfl; (with_reducible repeat (first | refine blk_drewN ?_ _ | refine blk_drew ?_ | refine blk_alloc ?_ _)); refine blk_put (cs := #[.string ((rd_T34 l0 x11_1).f0), .int .i64 0, .int .i64 0]) ?_ 1 _ rfl; (with_reducible repeat (first | refine blk_drewN ?_ _ | refine blk_drew ?_ | refine blk_alloc ?_ _)); refine blk_put (cs := #[.string (⟨#[]⟩ : ByteArray), .int .i64 0, .int .i64 0]) ?_ 0 _ rfl; (with_reducible repeat (first | refine blk_drewN ?_ _ | refine blk_drew ?_ | refine blk_alloc ?_ _)); exact BK106.out⟩
       have n1_ : Aside0 (Below wr.heap.size wr (((w73.setCell ⟨gb106, 0, none⟩ (.string ((rd_T34 l0 x11_1).f0))).setCell ⟨gb106, 1, none⟩ (.int .i64 ((rd_T34 l0 x11_1).f1))).setCell ⟨gb106, 2, none⟩ (.int .i64 ((rd_T34 l0 x11_1).f2)))) := ⟨kZ HB⟩
       (try clear BK106)
       (try clear HB)
       generalize (((w73.setCell ⟨gb106, 0, none⟩ (.string ((rd_T34 l0 x11_1).f0))).setCell ⟨gb106, 1, none⟩ (.int .i64 ((rd_T34 l0 x11_1).f1))).setCell ⟨gb106, 2, none⟩ (.int .i64 ((rd_T34 l0 x11_1).f2))) = w75 at n0_ n1_ ⊢
       have BK106 := n0_
       have HB := n1_
       clear n0_ n1_
       (try (rw [drewN_self w75]; generalize hq_ : World.drewN w75 _ = w75; have n0_ : Aside0 (w75.heap[gb106]? = some (.cells #[.string ((rd_T34 l0 x11_1).f0), .int .i64 ((rd_T34 l0 x11_1).f1), .int .i64 ((rd_T34 l0 x11_1).f2)] 34 (0, 0))) := ⟨by rw [← hq_]; exact (kB BK106)⟩; have n1_ : Aside0 (Below wr.heap.size wr w75) := ⟨by rw [← hq_]; exact (kZ HB)⟩; clear BK106 HB hq_; have BK106 := n0_; have HB := n1_; clear n0_ n1_))
       have n0_ := Aside0.mk (blk_drew BK106.out)
       have n1_ := Aside0.mk (below_drew1 HB.out)
       clear BK106
       clear HB
       have BK106 := n0_
       have HB := n1_
       clear n0_ n1_
       refine start_ (n := 40) (S := fun w' => w'.cell? ⟨gb106, 0, none⟩ = some (.string ((rd_T34 l0 x11_1).f0)) ∧ w'.cell? ⟨gb106, 1, none⟩ = some (.int .i64 ((rd_T34 l0 x11_1).f1)) ∧ w'.cell? ⟨gb106, 2, none⟩ = some (.int .i64 ((rd_T34 l0 x11_1).f2))) (ds := []) x2tr40_0 (by kernel_rfl) rfl rfl ⟨(blk_cell BK106.out 0).trans rfl, (blk_cell BK106.out 1).trans rfl, (blk_cell BK106.out 2).trans rfl⟩ (fun hHeld => ?_); refine with_tabW locks_Right.tab6 locks_Right.bits6 (fun HT_ HW_ => ?_)
       generalize w75.drew = w76 at BK106 HB hHeld ⊢
       refine pA_ 0 23 x2tr40_1 HT_.out ?_
       refine take_ (i := 1) (N := some 24) (v := ?_) (a' := ?_) x2tr40_2 rfl rfl (take_ofW HT_.out HW_.out (by kernel_rfl)) (fun _ _ _ h => h) (Or.inl ⟨by rfl, ?_⟩) hHeld ?_ ?_
       rotate_left
       ·rintro w' ⟨s0, s1, s2⟩
        go_simp
        with_reducible rfl
       rotate_left
       ·simp only [Act.put, List.setIfInBounds_toArray, List.set_cons_zero, List.set_cons_succ, i64_w, i32_w]
        rfl
       refine one_ (i := 2) (N := some 25) x2tr40_3 rfl rfl (one_of HT_.out (by kernel_rfl)) (by decide) (fun K hK => ?_)
       refine goes_ Try.func21 (by kernel_rfl) rfl #[.string ((rd_T34 l0 x11_1).f0)] (by rfl) rfl rfl (by (try simp only [List.map_toArray, List.map_cons, List.map_nil]); first | done | rfl | (simp only [List.length_drop, List.length_take]; rfl)) ?_
       with_reducible refine (path_Right.calls ((rd_T34 l0 x11_1).f0) false _ A6.out).mono ?_
       rintro e w77 ⟨rfl, hb⟩
       refine ⟨_, rfl, ?_⟩
       have n0_ := Aside0.mk (blk_below (g := gb106) (o := .cells #[.string ((rd_T34 l0 x11_1).f0), .int .i64 ((rd_T34 l0 x11_1).f1), .int .i64 ((rd_T34 l0 x11_1).f2)] 34 (0, 0)) (kB BK106) hb)
       have n1_ := Aside0.mk (below_step (kZ HB) hb)
       clear BK106
       clear HB
       have BK106 := n0_
       have HB := n1_
       clear n0_ n1_
       (try clear hb)
       (try clear hb2)
       (try clear hk)
       (try clear hi)
       refine hK.out _ _ ⟨(blk_cell BK106.out 0).trans rfl, (blk_cell BK106.out 1).trans rfl, (blk_cell BK106.out 2).trans rfl⟩ (fun hHeld => ?_)
       clear hK K
       refine norm_ (a' := ?_) ?_ ?_
       rotate_left
       ·show Act.put _ (some 25) _ = _
        simp only [Act.put, List.setIfInBounds_toArray, List.set_cons_zero, List.set_cons_succ, i64_w, i32_w]
        rfl
       refine pA_ 3 26 x2tr40_4 HT_.out ?_
       refine pA_ 4 27 x2tr40_5 HT_.out ?_
       refine pU_ 5 28 x2tr40_6 HT_.out ?_
       refine pU_ 6 29 x2tr40_7 HT_.out ?_
       refine pU_ 7 30 x2tr40_8 HT_.out ?_
       refine pU_ 8 31 x2tr40_9 HT_.out ?_
       refine pA_ 9 32 x2tr40_10 HT_.out ?_
       refine pA_ 10 33 x2tr40_11 HT_.out ?_
       refine pU_ 11 34 x2tr40_12 HT_.out ?_
       refine pU_ 12 35 x2tr40_13 HT_.out ?_
       refine pU_ 13 36 x2tr40_14 HT_.out ?_
       refine pU_ 14 37 x2tr40_15 HT_.out ?_
       refine pA_ 15 38 x2tr40_16 HT_.out ?_
       refine pA_ 16 39 x2tr40_17 HT_.out ?_
       refine pU_ 17 40 x2tr40_18 HT_.out ?_
       refine pU_ 18 41 x2tr40_19 HT_.out ?_
       refine pU_ 19 42 x2tr40_20 HT_.out ?_
       refine pU_ 20 43 x2tr40_21 HT_.out ?_
       refine pU_ 21 44 x2tr40_22 HT_.out ?_
       refine pU_ 22 45 x2tr40_23 HT_.out ?_
       refine pU_ 23 46 x2tr40_24 HT_.out ?_
       refine pA_ 24 47 x2tr40_25 HT_.out ?_
       refine pA_ 25 48 x2tr40_26 HT_.out ?_
       refine pU_ 26 49 x2tr40_27 HT_.out ?_
       refine pU_ 27 50 x2tr40_28 HT_.out ?_
       refine pU_ 28 51 x2tr40_29 HT_.out ?_
       refine pU_ 29 52 x2tr40_30 HT_.out ?_
       refine pU_ 30 53 x2tr40_31 HT_.out ?_
       refine pU_ 31 54 x2tr40_32 HT_.out ?_
       refine pU_ 32 55 x2tr40_33 HT_.out ?_
       refine pU_ 33 56 x2tr40_34 HT_.out ?_
       refine pU_ 34 57 x2tr40_35 HT_.out ?_
       refine pU_ 35 58 x2tr40_36 HT_.out ?_
       refine pU_ 36 59 x2tr40_37 HT_.out ?_
       refine pU_ 37 60 x2tr40_38 HT_.out ?_
       refine pU_ 38 61 x2tr40_39 HT_.out ?_
       refine pA_ 39 62 x2tr40_40 HT_.out ?_
       refine done_ (done_of HT_.out (by kernel_rfl)) ?_
       try go_wp2
       go_ret
       exact ⟨by first | rfl | (simp [errW_none, errW_some] <;> rfl) | (simp [*, errW_none, errW_some] <;> rfl), below_step HB0.out (kZ HB)⟩
     ·rw [if_neg c4] at H
      exact absurd H (by simp)
    ·rw [if_neg c3] at H
     exact absurd H (by simp)
   ·rw [if_neg c2] at H
    have c2b0 : decide (x11_1 < (l0.length : Int)) = false := decide_eq_false c2
    clear c2
    obtain rfl := Option.some.inj H
    go_wp2
    go_ret
    exact ⟨by first | rfl | (simp [errW_none, errW_some] <;> rfl) | (simp [*, errW_none, errW_some] <;> rfl), below_step HB0.out (kZ HB)⟩

end Go.Proofs.Ytclomgbiomojjaa.LRight
