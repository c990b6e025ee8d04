/- A log in memory: a record laid behind the others (a region of scan, one of Append). -/
import Derived.Test.YtnobhjpobnmiaaaDoorWlK
import Derived.Test.YtnobhjpobnmiaaaDoorWl9
namespace Go.Proofs.YtnobhjpobnmiaaaDoor.Wl
open Go Go.RowKit Go.Maps Go.Proofs Go.Proofs.YtnobhjpobnmiaaaDoor.Sk Go.Proofs.YtnobhjpobnmiaaaDoorW.PrintWords Go.Proofs.YtnobhjpobnmiaaaDoorW.PrintLast Go.Proofs.YtnobhjpobnmiaaaDoorW.PrintMore
set_option linter.unusedVariables false
set_option linter.unusedSimpArgs false
def findR (id : Nat) : Code → Option Code
  | .region i ops b => if i == id then some (.region i ops b) else none
  | .seq a b => (findR id a).orElse fun _ => findR id b
  | .cond _ a b => (findR id a).orElse fun _ => findR id b
  | .block _ a => findR id a
  | .loop a => findR id a
  | _ => none
def codeR (id : Nat) (f : Func) : Code := ((f.body).bind (findR id)).getD .skip
theorem clone_fn : Tryd.prog.funcs[(23 : Nat)]? = some Tryd.f23 := Tryd.func23
theorem clone_nm : ¬ Tryd.f23.name = "runtime.NumGoroutine" := by decide +kernel
theorem clone_bd : ¬ Tryd.f23.body = none := by
  unfold Tryd.f23
  exact fun h => by cases h
section
variable {a : Act} {w : World} {S : World → Prop}
theorem map1 {x : Operand} {u : Value} (h : a.eval x = u) : (#[x] : Array Operand).map a.eval = #[u] := by simp [h]
theorem map3 {x y z : Operand} {u v t : Value} (h : a.eval x = u) (h2 : a.eval y = v) (h3 : a.eval z = t) : (#[x, y, z] : Array Operand).map a.eval = #[u, v, t] := by simp [h, h2, h3]
theorem run_move {d : Option Tmp} {x : Operand} {ty : TypeId} {pos : String} {af : Array Edge} {v : Value} (h : a.eval x = v) : (execOp a.eval ⟨d, .move x, ty, pos, af, none⟩).run Tryd.prog w = .ok (.value v) w := by subst h; rfl
theorem run_nil {d : Option Tmp} {x : Operand} {ty : TypeId} {pos : String} {af : Array Edge} {q : Nat} (h : a.eval x = .pointer (some ⟨q, 0, none⟩)) : (execOp a.eval ⟨d, .nilCheck x, ty, pos, af, none⟩).run Tryd.prog w = .ok (.value (.pointer (some ⟨q, 0, none⟩))) w := by simp [execOp, h]
theorem run_field {d : Option Tmp} {x : Operand} {ty : TypeId} {pos : String} {af : Array Edge} {q i : Nat} (hi : i ≤ 3) (h : a.eval x = .pointer (some ⟨q, 0, none⟩)) : (execOp a.eval ⟨d, .fieldAddr 57 x i, ty, pos, af, none⟩).run Tryd.prog w = .ok (.value (.pointer (some ⟨q, i, none⟩))) w := by
  rcases (show i = 0 ∨ i = 1 ∨ i = 2 ∨ i = 3 by omega) with rfl | rfl | rfl | rfl <;> simp only [execOp, h] <;> go_simp
set_option maxRecDepth 100000 in
theorem run_load {d : Option Tmp} {x : Operand} {pos : String} {af : Array Edge} {q i : Nat} {v : Value} (h : a.eval x = .pointer (some ⟨q, i, none⟩)) (hc : w.cell? ⟨q, i, none⟩ = some v) : (execOp a.eval ⟨d, .load 30 x, 30, pos, af, none⟩).run Tryd.prog w = .ok (.value v) w := by
  simp only [execOp, h]
  go_simp
set_option maxRecDepth 100000 in
theorem run_store {x y : Operand} {ty : TypeId} {pos : String} {af : Array Edge} {q i : Nat} {A : Option Addr} {n c : Nat} {u : Value} (h : a.eval x = .pointer (some ⟨q, i, none⟩)) (h2 : a.eval y = .slice A n c) (hc : w.cell? ⟨q, i, none⟩ = some u) (hf : w.frozen? ⟨q, i, none⟩ = false) : (execOp a.eval ⟨none, .store 30 x y, ty, pos, af, none⟩).run Tryd.prog w = .ok .skip (w.setCell ⟨q, i, none⟩ (.slice A n c)) := by
  simp only [execOp, h, h2]
  go_simp
set_option maxRecDepth 100000 in
theorem run_bs {d : Option Tmp} {x : Operand} {ty : TypeId} {pos : String} {af : Array Edge} {A : Option Addr} {n c : Nat} (h : a.eval x = .slice A n c) : (execOp a.eval ⟨d, .buildSlice 30 1 #[(0, x)], ty, pos, af, none⟩).run Tryd.prog w = .ok (.value (.slice (some ⟨w.heap.size, 0, none⟩) 1 1)) (w.alloc (.cells #[.slice A n c] 22)) := by
  simp only [execOp, List.map_toArray, List.map_cons, List.map_nil, h]
  go_simp
end

/-- values put in slots, the last one ahead -/
def puts (a : Act) : List (Nat × Value) → Act
  | [] => a
  | p :: l => (puts a l).put (some p.1) p.2
theorem puts_size (a : Act) : ∀ l, (puts a l).tmps.size = a.tmps.size
  | [] => rfl
  | p :: l => by rw [puts, size_put, puts_size a l]
theorem puts_eval {a : Act} (N : Nat) (e : Nat) (hN : N ≤ a.tmps.size) : ∀ (l : List (Nat × Value)), (l.all fun p => decide (p.1 < N)) = true → (puts a l).eval (.tmp e) = match l.find? (fun p => p.1 == e) with | some p => p.2 | none => a.eval (.tmp e)
  | [], _ => rfl
  | p :: l, h => by
    rw [List.all_cons, Bool.and_eq_true, decide_eq_true_eq] at h
    rw [puts, List.find?_cons]
    by_cases c : p.1 = e
    · rw [beq_iff_eq.2 c, ← c, eval_put_self _ (by rw [puts_size]; omega)]
    · rw [beq_eq_false_iff_ne.2 c, eval_put_ne _ c]
      exact puts_eval N e hN l h.2
/-- a row of rows, and one row more -/
theorem app_wp {o : Oper} {a : Act} {w w4 : World} {K : Act → World → Prop} {Q : Exit → Act → World → Prop} {B : Nat} (hgd : o.guard = none) (s x : Operand)
    (ho : o.op = .call { callee := .builtin .append, args := #[s, x], argTypes := #[30, 30] }) {v : Value} {l : List By} {y : By} {A1 : Option Addr} {k c1 : Nat} {ok : Nat → Prop}
    (hs : a.eval s = v) (hx : a.eval x = .slice (some ⟨w4.heap.size, 0, none⟩) 1 1) (hv : RB w B ok v l) (hbw : B ≤ w.heap.size) (hl : l.length ≤ 100000)
    (hr : Kd.R (Kd.int .u8) 5 w4 w.heap.size (fun _ => True) (.slice A1 k c1) y) (hb : Below w.heap.size w w4) (hok : ∀ k, w.heap.size ≤ k → ok k)
    (h : ∀ v1 w5, RB w5 B ok v1 (l ++ [y]) → w.grownBy w5 v.ownBlock → (v1.ownBlock = v.ownBlock ∨ ∃ b, v1.ownBlock = some b ∧ w.heap.size ≤ b) → K (a.put o.dst v1) w5) :
    Oper.wp Tryd.prog o a (w4.alloc (.cells #[.slice A1 k c1] 22)) K Q := by
  have hw : Region.wanted o (yielded #[] a.tmps) = true := by simp [Region.wanted, hgd]
  have hbB : Below B w w4 := ⟨hb.os, hb.tape, hb.output, hb.size, fun i hi => hb.block i (Nat.lt_of_lt_of_le hi hbw)⟩
  have hg4 : w.grownBy w4 v.ownBlock := ⟨hb.os, hb.tape, hb.output, hb.size, fun i hi _ => hb.block i hi⟩
  have hrn := Kd.R_newR hr hv
  have := Kd.R_append_step kB (P := Tryd.prog) (ops := #[]) (o := o) (a := a) (Kc := K) (Q := Q) (w0 := w) (W := w4) B hw s x 30 22 (.slice none 0 0) 24 ho Tryd.underlying30 infoB rfl (by decide) (by decide) v l y [.slice A1 k c1] ok (fun k => ok k ∧ some k ≠ v.ownBlock) hs hx
    ⟨_, rfl, Kd.R_lower (Kd.R_mono (Kd.R_bound hrn) (fun k hk => ⟨hok k hk.2.1, hk.1.2⟩)) hbw⟩ (fun k hk => hk) (fun k hk => hok k (Nat.le_trans hb.size hk)) (Kd.R_below hv hb) hbB (Nat.le_trans hbw hb.size) (by omega) (fun v1 w5 k1 k2 k3 k4 => h v1 w5 k1 (hg4.andThen k3 (fun j hj => .inr hj)) (k4.imp id (fun ⟨b, hb1, hb2⟩ => ⟨b, hb1, Nat.le_trans hb.size hb2⟩)))
  rw [if_pos hw] at this
  exact this
theorem sk_app {ops : Array Oper} {md : Region.Mode} {S : World → Prop} {n i fuel : Nat} {listed : Array Bool} {o : Oper} {a : Act} {w w4 : World} {Q : Exit → Act → World → Prop} {B : Nat} (hi : ops[i]? = some o) (hgd : o.guard = none) (s x : Operand)
    (ho : o.op = .call { callee := .builtin .append, args := #[s, x], argTypes := #[30, 30] }) {v : Value} {l : List By} {y : By} {A1 : Option Addr} {k c1 : Nat} {ok : Nat → Prop}
    (hs : a.eval s = v) (hx : a.eval x = .slice (some ⟨w4.heap.size, 0, none⟩) 1 1) (hv : RB w B ok v l) (hbw : B ≤ w.heap.size) (hl : l.length ≤ 100000)
    (hr : Kd.R (Kd.int .u8) 5 w4 w.heap.size (fun _ => True) (.slice A1 k c1) y) (hb : Below w.heap.size w w4) (hok : ∀ k, w.heap.size ≤ k → ok k)
    (h : ∀ v1 w5, RB w5 B ok v1 (l ++ [y]) → w.grownBy w5 v.ownBlock → (v1.ownBlock = v.ownBlock ∨ ∃ b, v1.ownBlock = some b ∧ w.heap.size ≤ b) → ((listed.setIfInBounds i true).getD n false = false → S w5) ∧ WK Tryd.prog md ops Q S n fuel (listed.setIfInBounds i true) (a.put o.dst v1) w5) :
    SK Tryd.prog md ops Q S n fuel listed a (w4.alloc (.cells #[.slice A1 k c1] 22)) i := sk_of hi hgd (app_wp hgd s x ho hs hx hv hbw hl hr hb hok h)
set_option maxHeartbeats 4000000 in
set_option maxRecDepth 100000 in
theorem scan_app {a : Act} {w : World} {q B k c16 : Nat} {A7 : Option Addr} {v : Value} {l : List By} {x : By} {ok : Nat → Prop} {Q : Exit → Act → World → Prop}
    (hN : 49 ≤ a.tmps.size) (h0 : a.eval (.tmp 0) = .pointer (some ⟨q, 0, none⟩)) (ha : a.eval (.tmp 5) = .slice A7 k c16) (hc : w.cell? ⟨q, 2, none⟩ = some v) (hfz : w.frozen? ⟨q, 2, none⟩ = false) (hqv : some q ≠ v.ownBlock)
    (hv : RB w B ok v l) (hbw : B ≤ w.heap.size) (hl : l.length ≤ 100000) (hkl : x.length ≤ 1000000) (hxl : x.length = k) (hx : CB w A7 k x) (hok : ∀ k, w.heap.size ≤ k → ok k)
    (hQ : ∀ (u38 u39 u40 u41 u42 u43 u44 u45 u46 u47 u48 v1 : Value) (w5 : World), RB w5 B ok v1 (l ++ [x]) → w.grownBy w5 v.ownBlock → (v1.ownBlock = v.ownBlock ∨ ∃ b, v1.ownBlock = some b ∧ w.heap.size ≤ b) → Q .normal (puts a [(48, u48), (47, u47), (46, u46), (45, u45), (44, u44), (43, u43), (42, u42), (41, u41), (40, u40), (39, u39), (38, u38)]) (w5.setCell ⟨q, 2, none⟩ v1)) :
    Code.wp Tryd.prog (codeR 5 Tryd.f30) Q a w := by
  have hdr : Below w.heap.size w w.drew := ⟨rfl, rfl, rfl, Nat.le_refl _, fun _ _ => rfl⟩
  have hdc : w.drew.cell? ⟨q, 2, none⟩ = some v := hc
  have hql : q < w.heap.size := World.block_lt_of_cell? w _ hc
  have hcl := clone_any A7 c16 x w.drew (by rw [hxl]; exact Kd.C_below hx hdr) (by omega)
  rw [hxl] at hcl
  have HCL := hcl.mono (fun e w' (h : ∃ A' c', e = .returned (.slice A' k c') ∧ Kd.R (Kd.int .u8) 5 w' w.drew.heap.size (fun _ => True) (.slice A' k c') x ∧ Below w.drew.heap.size w.drew w') => (by obtain ⟨A1, c1, he, hr, hb⟩ := h; exact ⟨_, he, A1, c1, rfl, hr, hb⟩ : ∃ r, e = .returned r ∧ ∃ A1 c1, r = .slice A1 k c1 ∧ Kd.R (Kd.int .u8) 5 w' w.drew.heap.size (fun _ => True) (.slice A1 k c1) x ∧ Below w.drew.heap.size w.drew w'))
  unfold codeR Tryd.f30
  simp only [Option.bind_some, findR, Nat.reduceBEq, if_true, if_false, Option.orElse_none, Option.orElse_some, Option.getD_some, Bool.false_eq_true, Option.orElse_eq_orElse, Option.orElse_eq_or, Option.none_or, Option.some_or]
  refine wp_region_noPanic ?_
  refine wp_region_K (fun w' => w'.cell? ⟨q, 2, none⟩ = some v) 11 (by kernel_rfl) ?_
  refine wpAnyK_take (i := 0) (v := .pointer (some ⟨q, 0, none⟩)) [0] rfl (by kernel_rfl) (fun _ _ _ h => h) (yi_val rfl fun w' hw' => run_move h0) hdc ?_
  refine wpAnyK_take (i := 1) (v := .pointer (some ⟨q, 0, none⟩)) [1] rfl (by kernel_rfl) (fun _ _ _ h => h) (yi_val rfl fun w' hw' => run_move ((puts_eval 49 0 hN [(38, .pointer (some ⟨q, 0, none⟩))] rfl).trans h0)) hdc ?_
  refine wpAnyK_take (i := 2) (v := .pointer (some ⟨q, 0, none⟩)) [2] rfl (by kernel_rfl) (fun _ _ _ h => h) (yi_val rfl fun w' hw' => run_nil (puts_eval 49 39 hN [(39, .pointer (some ⟨q, 0, none⟩)), (38, .pointer (some ⟨q, 0, none⟩))] rfl)) hdc ?_
  refine wpAnyK_take (i := 3) (v := .pointer (some ⟨q, 2, none⟩)) [3] rfl (by kernel_rfl) (fun _ _ _ h => h) (yi_val rfl fun w' hw' => run_field (by decide) (puts_eval 49 40 hN [(40, .pointer (some ⟨q, 0, none⟩)), (39, .pointer (some ⟨q, 0, none⟩)), (38, .pointer (some ⟨q, 0, none⟩))] rfl)) hdc ?_
  refine wpAnyK_take (i := 4) (v := v) [4] rfl (by kernel_rfl) (fun _ _ _ h => h) (yi_val rfl fun w' hw' => run_load (puts_eval 49 41 hN [(41, .pointer (some ⟨q, 2, none⟩)), (40, .pointer (some ⟨q, 0, none⟩)), (39, .pointer (some ⟨q, 0, none⟩)), (38, .pointer (some ⟨q, 0, none⟩))] rfl) hw') hdc ?_
  refine wpAnyK_take (i := 5) (v := .slice A7 k c16) [5] rfl (by kernel_rfl) (fun _ _ _ h => h) (yi_val rfl fun w' hw' => run_move ((puts_eval 49 5 hN [(42, v), (41, .pointer (some ⟨q, 2, none⟩)), (40, .pointer (some ⟨q, 0, none⟩)), (39, .pointer (some ⟨q, 0, none⟩)), (38, .pointer (some ⟨q, 0, none⟩))] rfl).trans ha)) hdc ?_
  refine wpAnyK_one (i := 6) (by kernel_rfl) ?_
  refine sk_calln rfl rfl clone_fn clone_nm clone_bd (us := #[.slice A7 k c16]) rfl (map1 (puts_eval 49 43 hN [(43, .slice A7 k c16), (42, v), (41, .pointer (some ⟨q, 2, none⟩)), (40, .pointer (some ⟨q, 0, none⟩)), (39, .pointer (some ⟨q, 0, none⟩)), (38, .pointer (some ⟨q, 0, none⟩))] rfl)) HCL ?_
  rintro r w4 ⟨A1, c1, rfl, r4, hb4⟩
  have d4 : w4.cell? ⟨q, 2, none⟩ = some v := cell_keep0 hb4 hdc
  refine ⟨fun _ => d4, ?_⟩
  refine wpAnyK_one (i := 7) (by kernel_rfl) ?_
  refine sk_val rfl rfl (run_bs (puts_eval 49 44 hN [(44, .slice A1 k c1), (43, .slice A7 k c16), (42, v), (41, .pointer (some ⟨q, 2, none⟩)), (40, .pointer (some ⟨q, 0, none⟩)), (39, .pointer (some ⟨q, 0, none⟩)), (38, .pointer (some ⟨q, 0, none⟩))] rfl)) ?_
  have d4a := cell_keep0 (below_alloc (Below.refl w4.heap.size w4) (.cells #[.slice A1 k c1] 22)) d4
  refine ⟨fun _ => d4a, ?_⟩
  refine wpAnyK_one (i := 8) (by kernel_rfl) ?_
  refine sk_app rfl rfl (w := w) (B := B) (l := l) (y := x) (ok := ok) (.tmp 42) (.tmp 45) rfl (puts_eval 49 42 hN [(45, .slice (some ⟨w4.heap.size, 0, none⟩) 1 1), (44, .slice A1 k c1), (43, .slice A7 k c16), (42, v), (41, .pointer (some ⟨q, 2, none⟩)), (40, .pointer (some ⟨q, 0, none⟩)), (39, .pointer (some ⟨q, 0, none⟩)), (38, .pointer (some ⟨q, 0, none⟩))] rfl) (puts_eval 49 45 hN [(45, .slice (some ⟨w4.heap.size, 0, none⟩) 1 1), (44, .slice A1 k c1), (43, .slice A7 k c16), (42, v), (41, .pointer (some ⟨q, 2, none⟩)), (40, .pointer (some ⟨q, 0, none⟩)), (39, .pointer (some ⟨q, 0, none⟩)), (38, .pointer (some ⟨q, 0, none⟩))] rfl) hv hbw hl r4 (⟨hb4.os, hb4.tape, hb4.output, hb4.size, hb4.block⟩) hok ?_
  intro v1 w5 r5 hg5 ho5
  obtain ⟨A5, c5, rfl⟩ := Kd.R_slice r5
  have hblk := hg5.block q hql hqv
  have d5 : w5.cell? ⟨q, 2, none⟩ = some v := (World.cell?_of_block (a := ⟨q, 2, none⟩) hblk).trans hc
  have f5 : w5.frozen? ⟨q, 2, none⟩ = false := (World.frozen?_of_block (a := ⟨q, 2, none⟩) hblk).trans hfz
  refine ⟨fun _ => d5, ?_⟩
  refine wpAnyK_take (i := 9) (v := .pointer (some ⟨q, 0, none⟩)) [10, 9] rfl (by kernel_rfl) (fun _ _ _ h => h) (yi_val rfl fun w' hw' => run_nil (puts_eval 49 38 hN [(46, .slice A5 (l ++ [x]).length c5), (45, .slice (some ⟨w4.heap.size, 0, none⟩) 1 1), (44, .slice A1 k c1), (43, .slice A7 k c16), (42, v), (41, .pointer (some ⟨q, 2, none⟩)), (40, .pointer (some ⟨q, 0, none⟩)), (39, .pointer (some ⟨q, 0, none⟩)), (38, .pointer (some ⟨q, 0, none⟩))] rfl)) d5 ?_
  refine wpAnyK_take (i := 10) (v := .pointer (some ⟨q, 2, none⟩)) [10] rfl (by kernel_rfl) (fun _ _ _ h => h) (yi_val rfl fun w' hw' => run_field (by decide) (puts_eval 49 47 hN [(47, .pointer (some ⟨q, 0, none⟩)), (46, .slice A5 (l ++ [x]).length c5), (45, .slice (some ⟨w4.heap.size, 0, none⟩) 1 1), (44, .slice A1 k c1), (43, .slice A7 k c16), (42, v), (41, .pointer (some ⟨q, 2, none⟩)), (40, .pointer (some ⟨q, 0, none⟩)), (39, .pointer (some ⟨q, 0, none⟩)), (38, .pointer (some ⟨q, 0, none⟩))] rfl)) d5 ?_
  refine wk_last (fuel := 0) rfl rfl rfl (by kernel_rfl) (by kernel_rfl) (run_store (puts_eval 49 48 hN [(48, .pointer (some ⟨q, 2, none⟩)), (47, .pointer (some ⟨q, 0, none⟩)), (46, .slice A5 (l ++ [x]).length c5), (45, .slice (some ⟨w4.heap.size, 0, none⟩) 1 1), (44, .slice A1 k c1), (43, .slice A7 k c16), (42, v), (41, .pointer (some ⟨q, 2, none⟩)), (40, .pointer (some ⟨q, 0, none⟩)), (39, .pointer (some ⟨q, 0, none⟩)), (38, .pointer (some ⟨q, 0, none⟩))] rfl) (puts_eval 49 46 hN [(48, .pointer (some ⟨q, 2, none⟩)), (47, .pointer (some ⟨q, 0, none⟩)), (46, .slice A5 (l ++ [x]).length c5), (45, .slice (some ⟨w4.heap.size, 0, none⟩) 1 1), (44, .slice A1 k c1), (43, .slice A7 k c16), (42, v), (41, .pointer (some ⟨q, 2, none⟩)), (40, .pointer (some ⟨q, 0, none⟩)), (39, .pointer (some ⟨q, 0, none⟩)), (38, .pointer (some ⟨q, 0, none⟩))] rfl) d5 f5) ?_
  exact hQ _ _ _ _ _ _ _ _ _ _ _ _ _ r5 hg5 ho5
set_option maxHeartbeats 4000000 in
set_option maxRecDepth 100000 in
theorem append_app {a : Act} {w : World} {q B k c16 : Nat} {A7 : Option Addr} {v : Value} {l : List By} {x : By} {ok : Nat → Prop} {Q : Exit → Act → World → Prop}
    (hN : 54 ≤ a.tmps.size) (h0 : a.eval (.tmp 0) = .pointer (some ⟨q, 0, none⟩)) (ha : a.eval (.tmp 1) = .slice A7 k c16) (hc : w.cell? ⟨q, 2, none⟩ = some v) (hfz : w.frozen? ⟨q, 2, none⟩ = false) (hqv : some q ≠ v.ownBlock)
    (hv : RB w B ok v l) (hbw : B ≤ w.heap.size) (hl : l.length ≤ 100000) (hkl : x.length ≤ 1000000) (hxl : x.length = k) (hx : CB w A7 k x) (hok : ∀ k, w.heap.size ≤ k → ok k)
    (hQ : ∀ (u43 u44 u45 u46 u47 u48 u49 u50 u51 u52 u53 v1 : Value) (w5 : World), RB w5 B ok v1 (l ++ [x]) → w.grownBy w5 v.ownBlock → (v1.ownBlock = v.ownBlock ∨ ∃ b, v1.ownBlock = some b ∧ w.heap.size ≤ b) → Q .normal (puts a [(53, u53), (52, u52), (51, u51), (50, u50), (49, u49), (48, u48), (47, u47), (46, u46), (45, u45), (44, u44), (43, u43)]) (w5.setCell ⟨q, 2, none⟩ v1)) :
    Code.wp Tryd.prog (codeR 7 Tryd.f13) Q a w := by
  have hdr : Below w.heap.size w w.drew := ⟨rfl, rfl, rfl, Nat.le_refl _, fun _ _ => rfl⟩
  have hdc : w.drew.cell? ⟨q, 2, none⟩ = some v := hc
  have hql : q < w.heap.size := World.block_lt_of_cell? w _ hc
  have hcl := clone_any A7 c16 x w.drew (by rw [hxl]; exact Kd.C_below hx hdr) (by omega)
  rw [hxl] at hcl
  have HCL := hcl.mono (fun e w' (h : ∃ A' c', e = .returned (.slice A' k c') ∧ Kd.R (Kd.int .u8) 5 w' w.drew.heap.size (fun _ => True) (.slice A' k c') x ∧ Below w.drew.heap.size w.drew w') => (by obtain ⟨A1, c1, he, hr, hb⟩ := h; exact ⟨_, he, A1, c1, rfl, hr, hb⟩ : ∃ r, e = .returned r ∧ ∃ A1 c1, r = .slice A1 k c1 ∧ Kd.R (Kd.int .u8) 5 w' w.drew.heap.size (fun _ => True) (.slice A1 k c1) x ∧ Below w.drew.heap.size w.drew w'))
  unfold codeR Tryd.f13
  simp only [Option.bind_some, findR, Nat.reduceBEq, if_true, if_false, Option.orElse_none, Option.orElse_some, Option.getD_some, Bool.false_eq_true, Option.orElse_eq_orElse, Option.orElse_eq_or, Option.none_or, Option.some_or]
  refine wp_region_noPanic ?_
  refine wp_region_K (fun w' => w'.cell? ⟨q, 2, none⟩ = some v) 11 (by kernel_rfl) ?_
  refine wpAnyK_take (i := 0) (v := .pointer (some ⟨q, 0, none⟩)) [0] rfl (by kernel_rfl) (fun _ _ _ h => h) (yi_val rfl fun w' hw' => run_move h0) hdc ?_
  refine wpAnyK_take (i := 1) (v := .pointer (some ⟨q, 0, none⟩)) [1] rfl (by kernel_rfl) (fun _ _ _ h => h) (yi_val rfl fun w' hw' => run_move ((puts_eval 54 0 hN [(43, .pointer (some ⟨q, 0, none⟩))] rfl).trans h0)) hdc ?_
  refine wpAnyK_take (i := 2) (v := .pointer (some ⟨q, 0, none⟩)) [2] rfl (by kernel_rfl) (fun _ _ _ h => h) (yi_val rfl fun w' hw' => run_nil (puts_eval 54 44 hN [(44, .pointer (some ⟨q, 0, none⟩)), (43, .pointer (some ⟨q, 0, none⟩))] rfl)) hdc ?_
  refine wpAnyK_take (i := 3) (v := .pointer (some ⟨q, 2, none⟩)) [3] rfl (by kernel_rfl) (fun _ _ _ h => h) (yi_val rfl fun w' hw' => run_field (by decide) (puts_eval 54 45 hN [(45, .pointer (some ⟨q, 0, none⟩)), (44, .pointer (some ⟨q, 0, none⟩)), (43, .pointer (some ⟨q, 0, none⟩))] rfl)) hdc ?_
  refine wpAnyK_take (i := 4) (v := v) [4] rfl (by kernel_rfl) (fun _ _ _ h => h) (yi_val rfl fun w' hw' => run_load (puts_eval 54 46 hN [(46, .pointer (some ⟨q, 2, none⟩)), (45, .pointer (some ⟨q, 0, none⟩)), (44, .pointer (some ⟨q, 0, none⟩)), (43, .pointer (some ⟨q, 0, none⟩))] rfl) hw') hdc ?_
  refine wpAnyK_take (i := 5) (v := .slice A7 k c16) [5] rfl (by kernel_rfl) (fun _ _ _ h => h) (yi_val rfl fun w' hw' => run_move ((puts_eval 54 1 hN [(47, v), (46, .pointer (some ⟨q, 2, none⟩)), (45, .pointer (some ⟨q, 0, none⟩)), (44, .pointer (some ⟨q, 0, none⟩)), (43, .pointer (some ⟨q, 0, none⟩))] rfl).trans ha)) hdc ?_
  refine wpAnyK_one (i := 6) (by kernel_rfl) ?_
  refine sk_calln rfl rfl clone_fn clone_nm clone_bd (us := #[.slice A7 k c16]) rfl (map1 (puts_eval 54 48 hN [(48, .slice A7 k c16), (47, v), (46, .pointer (some ⟨q, 2, none⟩)), (45, .pointer (some ⟨q, 0, none⟩)), (44, .pointer (some ⟨q, 0, none⟩)), (43, .pointer (some ⟨q, 0, none⟩))] rfl)) HCL ?_
  rintro r w4 ⟨A1, c1, rfl, r4, hb4⟩
  have d4 : w4.cell? ⟨q, 2, none⟩ = some v := cell_keep0 hb4 hdc
  refine ⟨fun _ => d4, ?_⟩
  refine wpAnyK_one (i := 7) (by kernel_rfl) ?_
  refine sk_val rfl rfl (run_bs (puts_eval 54 49 hN [(49, .slice A1 k c1), (48, .slice A7 k c16), (47, v), (46, .pointer (some ⟨q, 2, none⟩)), (45, .pointer (some ⟨q, 0, none⟩)), (44, .pointer (some ⟨q, 0, none⟩)), (43, .pointer (some ⟨q, 0, none⟩))] rfl)) ?_
  have d4a := cell_keep0 (below_alloc (Below.refl w4.heap.size w4) (.cells #[.slice A1 k c1] 22)) d4
  refine ⟨fun _ => d4a, ?_⟩
  refine wpAnyK_one (i := 8) (by kernel_rfl) ?_
  refine sk_app rfl rfl (w := w) (B := B) (l := l) (y := x) (ok := ok) (.tmp 47) (.tmp 50) rfl (puts_eval 54 47 hN [(50, .slice (some ⟨w4.heap.size, 0, none⟩) 1 1), (49, .slice A1 k c1), (48, .slice A7 k c16), (47, v), (46, .pointer (some ⟨q, 2, none⟩)), (45, .pointer (some ⟨q, 0, none⟩)), (44, .pointer (some ⟨q, 0, none⟩)), (43, .pointer (some ⟨q, 0, none⟩))] rfl) (puts_eval 54 50 hN [(50, .slice (some ⟨w4.heap.size, 0, none⟩) 1 1), (49, .slice A1 k c1), (48, .slice A7 k c16), (47, v), (46, .pointer (some ⟨q, 2, none⟩)), (45, .pointer (some ⟨q, 0, none⟩)), (44, .pointer (some ⟨q, 0, none⟩)), (43, .pointer (some ⟨q, 0, none⟩))] rfl) hv hbw hl r4 (⟨hb4.os, hb4.tape, hb4.output, hb4.size, hb4.block⟩) hok ?_
  intro v1 w5 r5 hg5 ho5
  obtain ⟨A5, c5, rfl⟩ := Kd.R_slice r5
  have hblk := hg5.block q hql hqv
  have d5 : w5.cell? ⟨q, 2, none⟩ = some v := (World.cell?_of_block (a := ⟨q, 2, none⟩) hblk).trans hc
  have f5 : w5.frozen? ⟨q, 2, none⟩ = false := (World.frozen?_of_block (a := ⟨q, 2, none⟩) hblk).trans hfz
  refine ⟨fun _ => d5, ?_⟩
  refine wpAnyK_take (i := 9) (v := .pointer (some ⟨q, 0, none⟩)) [10, 9] rfl (by kernel_rfl) (fun _ _ _ h => h) (yi_val rfl fun w' hw' => run_nil (puts_eval 54 43 hN [(51, .slice A5 (l ++ [x]).length c5), (50, .slice (some ⟨w4.heap.size, 0, none⟩) 1 1), (49, .slice A1 k c1), (48, .slice A7 k c16), (47, v), (46, .pointer (some ⟨q, 2, none⟩)), (45, .pointer (some ⟨q, 0, none⟩)), (44, .pointer (some ⟨q, 0, none⟩)), (43, .pointer (some ⟨q, 0, none⟩))] rfl)) d5 ?_
  refine wpAnyK_take (i := 10) (v := .pointer (some ⟨q, 2, none⟩)) [10] rfl (by kernel_rfl) (fun _ _ _ h => h) (yi_val rfl fun w' hw' => run_field (by decide) (puts_eval 54 52 hN [(52, .pointer (some ⟨q, 0, none⟩)), (51, .slice A5 (l ++ [x]).length c5), (50, .slice (some ⟨w4.heap.size, 0, none⟩) 1 1), (49, .slice A1 k c1), (48, .slice A7 k c16), (47, v), (46, .pointer (some ⟨q, 2, none⟩)), (45, .pointer (some ⟨q, 0, none⟩)), (44, .pointer (some ⟨q, 0, none⟩)), (43, .pointer (some ⟨q, 0, none⟩))] rfl)) d5 ?_
  refine wk_last (fuel := 0) rfl rfl rfl (by kernel_rfl) (by kernel_rfl) (run_store (puts_eval 54 53 hN [(53, .pointer (some ⟨q, 2, none⟩)), (52, .pointer (some ⟨q, 0, none⟩)), (51, .slice A5 (l ++ [x]).length c5), (50, .slice (some ⟨w4.heap.size, 0, none⟩) 1 1), (49, .slice A1 k c1), (48, .slice A7 k c16), (47, v), (46, .pointer (some ⟨q, 2, none⟩)), (45, .pointer (some ⟨q, 0, none⟩)), (44, .pointer (some ⟨q, 0, none⟩)), (43, .pointer (some ⟨q, 0, none⟩))] rfl) (puts_eval 54 51 hN [(53, .pointer (some ⟨q, 2, none⟩)), (52, .pointer (some ⟨q, 0, none⟩)), (51, .slice A5 (l ++ [x]).length c5), (50, .slice (some ⟨w4.heap.size, 0, none⟩) 1 1), (49, .slice A1 k c1), (48, .slice A7 k c16), (47, v), (46, .pointer (some ⟨q, 2, none⟩)), (45, .pointer (some ⟨q, 0, none⟩)), (44, .pointer (some ⟨q, 0, none⟩)), (43, .pointer (some ⟨q, 0, none⟩))] rfl) d5 f5) ?_
  exact hQ _ _ _ _ _ _ _ _ _ _ _ _ _ r5 hg5 ho5
end Go.Proofs.YtnobhjpobnmiaaaDoor.Wl
