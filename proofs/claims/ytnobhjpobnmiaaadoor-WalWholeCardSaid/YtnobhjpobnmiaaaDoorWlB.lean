/- A log in memory: the drawn regions of Open (zeros written behind the records) and Start. -/
import Derived.Test.YtnobhjpobnmiaaaDoorWlA
import Derived.Test.YtnobhjpobnmiaaaDoorWlP
namespace Go.Proofs.YtnobhjpobnmiaaaDoor.Wl
open Go Go.RowKit Go.Maps Go.Proofs Go.Proofs.YtnobhjpobnmiaaaDoor.Sk Go.Proofs.YtnobhjpobnmiaaaDoorW.PrintWords Go.Proofs.YtnobhjpobnmiaaaDoorW.PrintLast Go.Proofs.YtnobhjpobnmiaaaDoorW.PrintMore
set_option linter.unusedVariables false
set_option linter.unusedSimpArgs false
theorem c_where_fn : Tryd.prog.funcs[(28 : Nat)]? = some Tryd.f28 := Tryd.func28
theorem c_where_nm : ¬ Tryd.f28.name = "runtime.NumGoroutine" := by decide +kernel
theorem c_where_bd : ¬ Tryd.f28.body = none := by
  unfold Tryd.f28
  exact fun h => by cases h
theorem c_write_fn : Tryd.prog.funcs[(32 : Nat)]? = some Tryd.f32 := Tryd.func32
theorem c_write_nm : ¬ Tryd.f32.name = "runtime.NumGoroutine" := by decide +kernel
theorem c_write_bd : ¬ Tryd.f32.body = none := by
  unfold Tryd.f32
  exact fun h => by cases h
theorem c_steps_fn : Tryd.prog.funcs[(31 : Nat)]? = some Tryd.f31 := Tryd.func31
theorem c_steps_nm : ¬ Tryd.f31.name = "runtime.NumGoroutine" := by decide +kernel
theorem c_steps_bd : ¬ Tryd.f31.body = none := by
  unfold Tryd.f31
  exact fun h => by cases h
theorem c_half_fn : Tryd.prog.funcs[(29 : Nat)]? = some Tryd.f29 := Tryd.func29
theorem c_half_nm : ¬ Tryd.f29.name = "runtime.NumGoroutine" := by decide +kernel
theorem c_half_bd : ¬ Tryd.f29.body = none := by
  unfold Tryd.f29
  exact fun h => by cases h
theorem c_sign_fn : Tryd.prog.funcs[(26 : Nat)]? = some Tryd.f26 := Tryd.func26
theorem c_sign_nm : ¬ Tryd.f26.name = "runtime.NumGoroutine" := by decide +kernel
theorem c_sign_bd : ¬ Tryd.f26.body = none := by
  unfold Tryd.f26
  exact fun h => by cases h
theorem c_need_fn : Tryd.prog.funcs[(34 : Nat)]? = some Tryd.f34 := Tryd.func34
theorem c_need_nm : ¬ Tryd.f34.name = "runtime.NumGoroutine" := by decide +kernel
theorem c_need_bd : ¬ Tryd.f34.body = none := by
  unfold Tryd.f34
  exact fun h => by cases h
theorem cast_act {P : Program} {md : Region.Mode} {ops : Array Oper} {Q : Exit → Act → World → Prop} {S : World → Prop} {k n : Nat} {l : Array Bool} {a a' : Act} {w : World} (e : a = a') (h : WK P md ops Q S k n l a' w) : WK P md ops Q S k n l a w := e ▸ h
theorem puts_move (a : Act) : ∀ (pre : List (Nat × Value)) (x : Nat × Value) (suf : List (Nat × Value)), (pre.all fun p => p.1 != x.1) = true → puts a (x :: (pre ++ suf)) = puts a (pre ++ x :: suf)
  | [], _, _, _ => rfl
  | p :: pre, x, suf, h => by
    rw [List.all_cons, Bool.and_eq_true] at h
    have hne : p.1 ≠ x.1 := by simpa using h.1
    have ih := puts_move a pre x suf h.2
    show (puts a (p :: (pre ++ suf))).put (some x.1) x.2 = (puts a (pre ++ x :: suf)).put (some p.1) p.2
    rw [← ih]
    show ((puts a (pre ++ suf)).put (some p.1) p.2).put (some x.1) x.2 = ((puts a (pre ++ suf)).put (some x.1) x.2).put (some p.1) p.2
    exact Act.put_comm _ _ _ (fun d hd he => hne ((Option.some.inj hd).trans (Option.some.inj he).symm))
section
variable {a : Act} {w : World}
theorem run_assign {d : Option Tmp} {x : Operand} {ty : TypeId} {pos : String} {af : Array Edge} {v : Value} (h : a.eval x = v) : (execOp a.eval ⟨d, .assign x, ty, pos, af, none⟩).run Tryd.prog w = .ok (.value v) w := by subst h; rfl
theorem run_len {d : Option Tmp} {x : Operand} {ty : TypeId} {pos : String} {af : Array Edge} {A : Option Addr} {n c : Nat} (h : a.eval x = .slice A n c) : (execOp a.eval ⟨d, .call { callee := .builtin .len, args := #[x], argTypes := #[22] }, ty, pos, af, none⟩).run Tryd.prog w = .ok (.value (.int .i64 (n : Int))) w := by
  simp only [execOp, resolve, invoke, List.map_toArray, List.map_cons, List.map_nil, h]
  go_simp
theorem run_mul16 {d : Option Tmp} {x : Operand} {ty : TypeId} {pos : String} {af : Array Edge} {n : Nat} (hn : n ≤ 1000000) (h : a.eval x = .int .i64 (n : Int)) : (execOp a.eval ⟨d, .binOp .mul 3 x (.const (.int .i64 16)) 3, ty, pos, af, none⟩).run Tryd.prog w = .ok (.value (.int .i64 ((n * 16 : Nat) : Int))) w := by
  have q : IntKind.i64.wrap ((n : Int) * 16) = ((n * 16 : Nat) : Int) := by rw [IntWalk.i64_in _ (by omega)]; omega
  simp only [execOp, h]
  go_simp
theorem run_mkf {d : Option Tmp} {x : Operand} {ty : TypeId} {pos : String} {af : Array Edge} {f : Nat} {v : Value} (h : a.eval x = v) : (execOp a.eval ⟨d, .makeFunc (.func f) #[x] #[], ty, pos, af, none⟩).run Tryd.prog w = .ok (.value (.func (.func f) #[v] #[])) w := by
  simp only [execOp, List.map_toArray, List.map_cons, List.map_nil, h]
  rfl
theorem run_mkc {d : Option Tmp} {x y z : Operand} {ty : TypeId} {pos : String} {af : Array Edge} {f : Nat} {u v t : Value} (h : a.eval x = u) (h2 : a.eval y = v) (h3 : a.eval z = t) : (execOp a.eval ⟨d, .makeFunc (.func f) #[] #[x, y, z], ty, pos, af, none⟩).run Tryd.prog w = .ok (.value (.func (.func f) #[] #[u, v, t])) w := by
  simp only [execOp, List.map_toArray, List.map_cons, List.map_nil, h, h2, h3]
  rfl
set_option maxRecDepth 100000 in
theorem run_make {d : Option Tmp} {x : Operand} {ty : TypeId} {pos : String} {af : Array Edge} {n : Nat} (hn : n ≤ 1000000000) (h : a.eval x = .int .i64 (n : Int)) : (execOp a.eval ⟨d, .makeSlice 22 x x, ty, pos, af, none⟩).run Tryd.prog w = .ok (.value (.slice (some ⟨w.heap.size, 0, none⟩) n n)) (w.alloc (.cells (enc (zer n)).toArray 5)) := by
  have := make_run n hn w
  simp only [execOp, h]
  go_simp
  exact rfl
set_option maxRecDepth 100000 in
theorem run_fs2 {d : Option Tmp} {x y : Operand} {ty : TypeId} {pos : String} {af : Array Edge} {f1 f2 : Fn} {b1 b2 c1 c2 : Array Value} (h : a.eval x = .func f1 b1 c1) (h2 : a.eval y = .func f2 b2 c2) : (execOp a.eval ⟨d, .buildSlice 84 2 #[(0, x), (1, y)], ty, pos, af, none⟩).run Tryd.prog w = .ok (.value (.slice (some ⟨w.heap.size, 0, none⟩) 2 2)) (w.alloc (.cells #[.func f1 b1 c1, .func f2 b2 c2] 64)) := by
  simp only [execOp, List.map_toArray, List.map_cons, List.map_nil, h, h2]
  go_simp
set_option maxRecDepth 100000 in
theorem run_fs4 {d : Option Tmp} {x y z k : Operand} {ty : TypeId} {pos : String} {af : Array Edge} {f1 f2 f3 f4 : Fn} {b1 b2 b3 b4 c1 c2 c3 c4 : Array Value} (h : a.eval x = .func f1 b1 c1) (h2 : a.eval y = .func f2 b2 c2) (h3 : a.eval z = .func f3 b3 c3) (h4 : a.eval k = .func f4 b4 c4) : (execOp a.eval ⟨d, .buildSlice 84 4 #[(0, x), (1, y), (2, z), (3, k)], ty, pos, af, none⟩).run Tryd.prog w = .ok (.value (.slice (some ⟨w.heap.size, 0, none⟩) 4 4)) (w.alloc (.cells #[.func f1 b1 c1, .func f2 b2 c2, .func f3 b3 c3, .func f4 b4 c4] 64)) := by
  simp only [execOp, List.map_toArray, List.map_cons, List.map_nil, h, h2, h3, h4]
  go_simp
set_option maxRecDepth 100000 in
theorem run_load3 {d : Option Tmp} {x : Operand} {pos : String} {af : Array Edge} {q i : Nat} {v : Value} (h : a.eval x = .pointer (some ⟨q, i, none⟩)) (hc : w.cell? ⟨q, i, none⟩ = some v) : (execOp a.eval ⟨d, .load 3 x, 3, pos, af, none⟩).run Tryd.prog w = .ok (.value v) w := by
  simp only [execOp, h]
  go_simp
set_option maxRecDepth 100000 in
theorem run_load24 {d : Option Tmp} {x : Operand} {pos : String} {af : Array Edge} {q i : Nat} {v : Value} (h : a.eval x = .pointer (some ⟨q, i, none⟩)) (hc : w.cell? ⟨q, i, none⟩ = some v) : (execOp a.eval ⟨d, .load 24 x, 24, pos, af, none⟩).run Tryd.prog w = .ok (.value v) w := by
  simp only [execOp, h]
  go_simp
set_option maxRecDepth 100000 in
theorem run_load26 {d : Option Tmp} {x : Operand} {pos : String} {af : Array Edge} {q i : Nat} {v : Value} (h : a.eval x = .pointer (some ⟨q, i, none⟩)) (hc : w.cell? ⟨q, i, none⟩ = some v) : (execOp a.eval ⟨d, .load 26 x, 26, pos, af, none⟩).run Tryd.prog w = .ok (.value v) w := by
  simp only [execOp, h]
  go_simp
set_option maxRecDepth 100000 in
theorem run_load22 {d : Option Tmp} {x : Operand} {pos : String} {af : Array Edge} {q i : Nat} {v : Value} (h : a.eval x = .pointer (some ⟨q, i, none⟩)) (hc : w.cell? ⟨q, i, none⟩ = some v) : (execOp a.eval ⟨d, .load 22 x, 22, pos, af, none⟩).run Tryd.prog w = .ok (.value v) w := by
  simp only [execOp, h]
  go_simp
end
section
variable {W w0 w1 w2 w3 : World} {p g cap m : Nat} {s : D}
theorem clean_steps (h : SR w0 p g cap m s) (o : Ok s) (ha : s.acts ≤ 999999990) {gp z1 at_ N : Nat} (hN : N ≤ 1000000) (hgp0 : w0.heap.size ≤ gp) (hrow : Row w1 gp N (zer N)) (hb1 : Below w0.heap.size w0 w1)
    (hb2 : Below w1.heap.size w1 w2) (hc2 : Cap w2 p (z1 + 1) (z1 + 2) z1 at_ (some ⟨gp, 0, none⟩) N N) :
    Calls Tryd.prog 31 #[.slice (some ⟨w2.heap.size, 0, none⟩) 2 2] (w2.alloc (.cells #[(St.w (z1 + 2) z1 (z1 + 1)).val, (St.s p).val] 64)) fun e w' => ∃ r, e = .returned r ∧
      r = .int .i64 (cleanD s at_ N).2 ∧ SR w' p g cap m (cleanD s at_ N).1 ∧ Fr w0 w' p g m := by
  have hl := h.lt
  obtain ⟨ob, hob⟩ : ∃ ob, Obj.cells #[(St.w (z1 + 2) z1 (z1 + 1)).val, (St.s p).val] 64 (0, 0) = ob := ⟨_, rfl⟩
  have hs1 : w0.heap.size ≤ w1.heap.size := hb1.size
  have hs2 : w1.heap.size ≤ w2.heap.size := hb2.size
  have hb4 : Below w2.heap.size w2 (w2.alloc ob) := below_alloc (Below.refl _ _) ob
  have hq : (w2.alloc ob).heap[w2.heap.size]? = some ob := blk_new w2 ob
  have hqlt : w2.heap.size < (w2.alloc ob).heap.size := by rw [size_alloc]; omega
  have b1 : Below w1.heap.size w1 (w2.alloc ob) := below_step hb2 hb4
  have b0 : Below w0.heap.size w0 (w2.alloc ob) := below_step hb1 b1
  have hS := h.below b0
  have hC1 := hc2.below hb4
  have hzl : (zer N).length = N := by unfold zer; rw [List.length_replicate]
  have hR1 := (row_below hrow b1).CB (show (zer N).length ≤ 9223372036854775807 by rw [hzl]; omega)
  have hgq : w2.heap.size ≠ p ∧ w2.heap.size ≠ g ∧ w2.heap.size ≠ m := ⟨by omega, by omega, by omega⟩
  have hgp : gp ≠ p ∧ gp ≠ g ∧ gp ≠ m := ⟨by omega, by omega, by omega⟩
  have hfs : ([St.w (z1 + 2) z1 (z1 + 1), St.s p].map St.val).toArray = #[(St.w (z1 + 2) z1 (z1 + 1)).val, (St.s p).val] := rfl
  generalize hwq : w2.alloc ob = wq at hb4 hq hqlt b1 b0 hS hC1 hR1
  have key : Run ob w2.heap.size [St.w (z1 + 2) z1 (z1 + 1), St.s p] wq (Post wq p g cap m (cleanD s at_ N)) := by
    have hbq : ∀ w', Fr wq w' p g m → w'.heap[w2.heap.size]? = some ob := fun w' hf => (hf.block _ hqlt hgq.1 hgq.2.1 hgq.2.2).trans hq
    refine run_thn hq (Fr.refl _ _ _ _) (w1_calls hS o (by omega) (zer N) (by rw [hzl]; exact hC1) hR1 (fun ad e _ => by cases e; exact hgp)) (fun wa _ ka _ fa => ?_)
    have oa := wst_ok o (at_ : Int) (zer N) (fun y hy => by have := List.eq_of_mem_replicate hy; omega)
    have aa := acts_wst (s := s) (at_ : Int) (zer N)
    exact run_thn (hbq _ fa) fa (sync_calls ka oa (by omega)) (fun wb _ kb _ fb => run_fin kb fb)
  have hst := steps_calls w2.heap.size [St.w (z1 + 2) z1 (z1 + 1), St.s p] (show (2 : Nat) ≤ 100 by decide) wq _ (by rw [hfs, hob]; exact key)
  show Calls _ _ _ (w2.alloc (Obj.cells _ _ (0, 0))) _
  rw [hob, hwq]
  refine hst.mono ?_
  rintro e w' ⟨r, rfl, hr, k1, k2⟩
  exact ⟨_, rfl, by rw [hr], k1, (Fr.of_below b0).trans k2⟩
end
set_option maxHeartbeats 4000000 in
set_option maxRecDepth 100000 in
theorem open_clean {a : Act} {w : World} {p g cap m q area t N c9 : Nat} {s : D} {A9 : Option Addr} {v : Value} {Q : Exit → Act → World → Prop}
    (hN : 95 ≤ a.tmps.size) (h0 : a.eval (.tmp 0) = .pointer (some ⟨p, 0, none⟩)) (h6 : a.eval (.tmp 6) = .pointer (some ⟨q, 0, none⟩)) (h9 : a.eval (.tmp 9) = .slice A9 N c9)
    (h : SR w p g cap m s) (o : Ok s) (ha : s.acts ≤ 999999990) (hq : w.heap[q]? = some (.cells #[.pointer (some ⟨p, 0, none⟩), .int .i64 (area : Int), v, .int .i64 (t : Int)] 57 (0, 0))) (ha1 : area ≤ 1) (ht : t ≤ 1000000) (hNb : N ≤ 1000000)
    (hQ : ∀ (u72 u73 u74 u75 u76 u77 u78 u79 u80 u81 u82 u83 u84 u85 u86 u87 u88 u89 u90 : Value) (w' : World), SR w' p g cap m (cleanD s ((1 + area * half s.b.length + t) * 16) N).1 → Fr w w' p g m → Q .normal (puts a [(5, .int .i64 (cleanD s ((1 + area * half s.b.length + t) * 16) N).2), (90, u90), (89, u89), (88, u88), (87, u87), (86, u86), (85, u85), (84, u84), (83, u83), (82, u82), (81, u81), (80, u80), (79, u79), (78, u78), (77, u77), (76, u76), (75, u75), (74, u74), (73, u73), (72, u72)]) w') :
    Code.wp Tryd.prog (codeR 15 Tryd.f11) Q a w := by
  obtain ⟨_, c1, _, c3⟩ := cells4 hq
  have hdr : Below w.heap.size w w.drew := ⟨rfl, rfl, rfl, Nat.le_refl _, fun _ _ => rfl⟩
  have hS0 : w.drew.cell? ⟨q, 1, none⟩ = some (.int .i64 (area : Int)) ∧ w.drew.cell? ⟨q, 3, none⟩ = some (.int .i64 (t : Int)) := ⟨c1, c3⟩
  have hSRd := h.below hdr
  have HWH : ∀ w1, Below w.heap.size w w1 → Calls Tryd.prog 28 #[.pointer (some ⟨p, 0, none⟩), .int .i64 (area : Int), .int .i64 (t : Int)] w1 fun e w' => ∃ r, e = .returned r ∧ r = .int .i64 ((((1 + area * half s.b.length + t) * 16) : Nat) : Int) ∧ w' = w1 := fun w1 hb => (where_calls (h.below hb) o area t ha1 ht).mono fun e w' ⟨h1, h2⟩ => ⟨_, h1, rfl, h2⟩
  obtain ⟨w1, hw1⟩ : ∃ w1, w.drew.alloc (.cells (enc (zer N)).toArray 5) = w1 := ⟨_, rfl⟩
  have hb01 : Below w.drew.heap.size w.drew w1 := by rw [← hw1]; exact below_alloc (Below.refl _ _) _
  have hS1 : w1.cell? ⟨q, 1, none⟩ = some (.int .i64 (area : Int)) ∧ w1.cell? ⟨q, 3, none⟩ = some (.int .i64 (t : Int)) := ⟨cell_keep0 hb01 c1, cell_keep0 hb01 c3⟩
  have hB1 : Below w.heap.size w w1 := below_step hdr hb01
  have hrow : Row w1 w.drew.heap.size N (zer N) := ⟨[], by rw [List.append_nil, ← hw1]; exact blk_new _ _, by unfold zer; rw [List.length_replicate]; rfl⟩
  have HWR := (write_fn' p ((1 + area * half s.b.length + t) * 16) (some ⟨w.drew.heap.size, 0, none⟩) N N w1).mono (fun e w' (h : ∃ z, e = .returned (.func (.func 49) #[] #[.pointer (some ⟨z + 2, 0, none⟩), .pointer (some ⟨z, 0, none⟩), .pointer (some ⟨z + 1, 0, none⟩)]) ∧ Cap w' p (z + 1) (z + 2) z ((1 + area * half s.b.length + t) * 16) (some ⟨w.drew.heap.size, 0, none⟩) N N ∧ Below w1.heap.size w1 w') => (by obtain ⟨z, h1, h2, h3⟩ := h; exact ⟨_, h1, z, rfl, h2, h3⟩ : ∃ r, e = .returned r ∧ ∃ z, r = .func (.func 49) #[] #[.pointer (some ⟨z + 2, 0, none⟩), .pointer (some ⟨z, 0, none⟩), .pointer (some ⟨z + 1, 0, none⟩)] ∧ Cap w' p (z + 1) (z + 2) z ((1 + area * half s.b.length + t) * 16) (some ⟨w.drew.heap.size, 0, none⟩) N N ∧ Below w1.heap.size w1 w'))
  have hkeep2 : ∀ w2, Below w1.heap.size w1 w2 → w2.cell? ⟨q, 1, none⟩ = some (.int .i64 (area : Int)) ∧ w2.cell? ⟨q, 3, none⟩ = some (.int .i64 (t : Int)) := fun w2 hb => ⟨cell_keep0 hb hS1.1, cell_keep0 hb hS1.2⟩
  have hkeep3 : ∀ w2, Below w1.heap.size w1 w2 → ∀ ob, (w2.alloc ob).cell? ⟨q, 1, none⟩ = some (.int .i64 (area : Int)) ∧ (w2.alloc ob).cell? ⟨q, 3, none⟩ = some (.int .i64 (t : Int)) := fun w2 hb ob => ⟨cell_keep0 (below_alloc (Below.refl _ _) _) (hkeep2 w2 hb).1, cell_keep0 (below_alloc (Below.refl _ _) _) (hkeep2 w2 hb).2⟩
  unfold codeR Tryd.f11
  simp only [Option.bind_some, findR, Nat.reduceBEq, if_true, if_false, Option.orElse_none, Option.orElse_some, Option.getD_some, Bool.false_eq_true, Option.orElse_eq_orElse, Option.orElse_eq_or, Option.none_or, Option.some_or]
  refine wp_region_noPanic ?_
  refine wp_region_K (fun w' => w'.cell? ⟨q, 1, none⟩ = some (.int .i64 (area : Int)) ∧ w'.cell? ⟨q, 3, none⟩ = some (.int .i64 (t : Int))) 18 (by kernel_rfl) ?_
  refine wpAnyK_take (i := 0) (v := .pointer (some ⟨p, 0, none⟩)) [14, 0] rfl (by kernel_rfl) (fun _ _ _ h => h) (yi_val rfl fun w' hw' => run_move ((puts_eval 95 0 hN ([]) rfl).trans h0)) hS0 ?_
  refine wpAnyK_take (i := 1) (v := .pointer (some ⟨p, 0, none⟩)) [14, 10, 1] rfl (by kernel_rfl) (fun _ _ _ h => h) (yi_val rfl fun w' hw' => run_move ((puts_eval 95 0 hN ((72, .pointer (some ⟨p, 0, none⟩)) :: []) rfl).trans h0)) hS0 ?_
  refine wpAnyK_take (i := 2) (v := .pointer (some ⟨q, 0, none⟩)) [14, 10, 5, 4, 3, 2] rfl (by kernel_rfl) (fun _ _ _ h => h) (yi_val rfl fun w' hw' => run_move ((puts_eval 95 6 hN ((73, .pointer (some ⟨p, 0, none⟩)) :: (72, .pointer (some ⟨p, 0, none⟩)) :: []) rfl).trans h6)) hS0 ?_
  refine wpAnyK_take (i := 3) (v := .pointer (some ⟨q, 0, none⟩)) [14, 10, 5, 4, 3] rfl (by kernel_rfl) (fun _ _ _ h => h) (yi_val rfl fun w' hw' => run_nil (puts_eval 95 74 hN ((74, .pointer (some ⟨q, 0, none⟩)) :: (73, .pointer (some ⟨p, 0, none⟩)) :: (72, .pointer (some ⟨p, 0, none⟩)) :: []) rfl)) hS0 ?_
  refine wpAnyK_take (i := 4) (v := .pointer (some ⟨q, 1, none⟩)) [14, 10, 5, 4] rfl (by kernel_rfl) (fun _ _ _ h => h) (yi_val rfl fun w' hw' => run_field (by decide) (puts_eval 95 75 hN ((75, .pointer (some ⟨q, 0, none⟩)) :: (74, .pointer (some ⟨q, 0, none⟩)) :: (73, .pointer (some ⟨p, 0, none⟩)) :: (72, .pointer (some ⟨p, 0, none⟩)) :: []) rfl)) hS0 ?_
  refine wpAnyK_take (i := 5) (v := .int .i64 (area : Int)) [14, 10, 5] rfl (by kernel_rfl) (fun _ _ _ h => h) (yi_val rfl fun w' hw' => run_load3 (puts_eval 95 76 hN ((76, .pointer (some ⟨q, 1, none⟩)) :: (75, .pointer (some ⟨q, 0, none⟩)) :: (74, .pointer (some ⟨q, 0, none⟩)) :: (73, .pointer (some ⟨p, 0, none⟩)) :: (72, .pointer (some ⟨p, 0, none⟩)) :: []) rfl) hw'.1) hS0 ?_
  refine wpAnyK_take (i := 6) (v := .pointer (some ⟨q, 0, none⟩)) [14, 10, 9, 8, 7, 6] rfl (by kernel_rfl) (fun _ _ _ h => h) (yi_val rfl fun w' hw' => run_move ((puts_eval 95 6 hN ((77, .int .i64 (area : Int)) :: (76, .pointer (some ⟨q, 1, none⟩)) :: (75, .pointer (some ⟨q, 0, none⟩)) :: (74, .pointer (some ⟨q, 0, none⟩)) :: (73, .pointer (some ⟨p, 0, none⟩)) :: (72, .pointer (some ⟨p, 0, none⟩)) :: []) rfl).trans h6)) hS0 ?_
  refine wpAnyK_take (i := 7) (v := .pointer (some ⟨q, 0, none⟩)) [14, 10, 9, 8, 7] rfl (by kernel_rfl) (fun _ _ _ h => h) (yi_val rfl fun w' hw' => run_nil (puts_eval 95 78 hN ((78, .pointer (some ⟨q, 0, none⟩)) :: (77, .int .i64 (area : Int)) :: (76, .pointer (some ⟨q, 1, none⟩)) :: (75, .pointer (some ⟨q, 0, none⟩)) :: (74, .pointer (some ⟨q, 0, none⟩)) :: (73, .pointer (some ⟨p, 0, none⟩)) :: (72, .pointer (some ⟨p, 0, none⟩)) :: []) rfl)) hS0 ?_
  refine wpAnyK_take (i := 8) (v := .pointer (some ⟨q, 3, none⟩)) [14, 10, 9, 8] rfl (by kernel_rfl) (fun _ _ _ h => h) (yi_val rfl fun w' hw' => run_field (by decide) (puts_eval 95 79 hN ((79, .pointer (some ⟨q, 0, none⟩)) :: (78, .pointer (some ⟨q, 0, none⟩)) :: (77, .int .i64 (area : Int)) :: (76, .pointer (some ⟨q, 1, none⟩)) :: (75, .pointer (some ⟨q, 0, none⟩)) :: (74, .pointer (some ⟨q, 0, none⟩)) :: (73, .pointer (some ⟨p, 0, none⟩)) :: (72, .pointer (some ⟨p, 0, none⟩)) :: []) rfl)) hS0 ?_
  refine wpAnyK_take (i := 9) (v := .int .i64 (t : Int)) [14, 10, 9] rfl (by kernel_rfl) (fun _ _ _ h => h) (yi_val rfl fun w' hw' => run_load3 (puts_eval 95 80 hN ((80, .pointer (some ⟨q, 3, none⟩)) :: (79, .pointer (some ⟨q, 0, none⟩)) :: (78, .pointer (some ⟨q, 0, none⟩)) :: (77, .int .i64 (area : Int)) :: (76, .pointer (some ⟨q, 1, none⟩)) :: (75, .pointer (some ⟨q, 0, none⟩)) :: (74, .pointer (some ⟨q, 0, none⟩)) :: (73, .pointer (some ⟨p, 0, none⟩)) :: (72, .pointer (some ⟨p, 0, none⟩)) :: []) rfl) hw'.2) hS0 ?_
  refine wpAnyK_take (i := 11) (v := .slice A9 N c9) [14, 13, 12, 11] rfl (by kernel_rfl) (fun _ _ _ h => h) (yi_val rfl fun w' hw' => run_move ((puts_eval 95 9 hN ((81, .int .i64 (t : Int)) :: (80, .pointer (some ⟨q, 3, none⟩)) :: (79, .pointer (some ⟨q, 0, none⟩)) :: (78, .pointer (some ⟨q, 0, none⟩)) :: (77, .int .i64 (area : Int)) :: (76, .pointer (some ⟨q, 1, none⟩)) :: (75, .pointer (some ⟨q, 0, none⟩)) :: (74, .pointer (some ⟨q, 0, none⟩)) :: (73, .pointer (some ⟨p, 0, none⟩)) :: (72, .pointer (some ⟨p, 0, none⟩)) :: []) rfl).trans h9)) hS0 ?_
  refine wpAnyK_take (i := 12) (v := .int .i64 (N : Int)) [14, 13, 12] rfl (by kernel_rfl) (fun _ _ _ h => h) (yi_val rfl fun w' hw' => run_len (puts_eval 95 83 hN ((83, .slice A9 N c9) :: (81, .int .i64 (t : Int)) :: (80, .pointer (some ⟨q, 3, none⟩)) :: (79, .pointer (some ⟨q, 0, none⟩)) :: (78, .pointer (some ⟨q, 0, none⟩)) :: (77, .int .i64 (area : Int)) :: (76, .pointer (some ⟨q, 1, none⟩)) :: (75, .pointer (some ⟨q, 0, none⟩)) :: (74, .pointer (some ⟨q, 0, none⟩)) :: (73, .pointer (some ⟨p, 0, none⟩)) :: (72, .pointer (some ⟨p, 0, none⟩)) :: []) rfl)) hS0 ?_
  refine wpAnyK_take (i := 15) (v := .pointer (some ⟨p, 0, none⟩)) [17, 16, 15] rfl (by kernel_rfl) (fun _ _ _ h => h) (yi_val rfl fun w' hw' => run_move ((puts_eval 95 0 hN ((84, .int .i64 (N : Int)) :: (83, .slice A9 N c9) :: (81, .int .i64 (t : Int)) :: (80, .pointer (some ⟨q, 3, none⟩)) :: (79, .pointer (some ⟨q, 0, none⟩)) :: (78, .pointer (some ⟨q, 0, none⟩)) :: (77, .int .i64 (area : Int)) :: (76, .pointer (some ⟨q, 1, none⟩)) :: (75, .pointer (some ⟨q, 0, none⟩)) :: (74, .pointer (some ⟨q, 0, none⟩)) :: (73, .pointer (some ⟨p, 0, none⟩)) :: (72, .pointer (some ⟨p, 0, none⟩)) :: []) rfl).trans h0)) hS0 ?_
  refine wpAnyK_take (i := 16) (v := .func (.func 33) #[.pointer (some ⟨p, 0, none⟩)] #[]) [17, 16] rfl (by kernel_rfl) (fun _ _ _ h => h) (yi_val rfl fun w' hw' => run_mkf (puts_eval 95 87 hN ((87, .pointer (some ⟨p, 0, none⟩)) :: (84, .int .i64 (N : Int)) :: (83, .slice A9 N c9) :: (81, .int .i64 (t : Int)) :: (80, .pointer (some ⟨q, 3, none⟩)) :: (79, .pointer (some ⟨q, 0, none⟩)) :: (78, .pointer (some ⟨q, 0, none⟩)) :: (77, .int .i64 (area : Int)) :: (76, .pointer (some ⟨q, 1, none⟩)) :: (75, .pointer (some ⟨q, 0, none⟩)) :: (74, .pointer (some ⟨q, 0, none⟩)) :: (73, .pointer (some ⟨p, 0, none⟩)) :: (72, .pointer (some ⟨p, 0, none⟩)) :: []) rfl)) hS0 ?_
  refine wpAnyK_two (i := 10) (j := 13) (by kernel_rfl) ?_ ?_
  · refine sk_calln rfl rfl c_where_fn c_where_nm c_where_bd (us := #[.pointer (some ⟨p, 0, none⟩), .int .i64 (area : Int), .int .i64 (t : Int)]) rfl (map3 (puts_eval 95 73 hN ((88, .func (.func 33) #[.pointer (some ⟨p, 0, none⟩)] #[]) :: (87, .pointer (some ⟨p, 0, none⟩)) :: (84, .int .i64 (N : Int)) :: (83, .slice A9 N c9) :: (81, .int .i64 (t : Int)) :: (80, .pointer (some ⟨q, 3, none⟩)) :: (79, .pointer (some ⟨q, 0, none⟩)) :: (78, .pointer (some ⟨q, 0, none⟩)) :: (77, .int .i64 (area : Int)) :: (76, .pointer (some ⟨q, 1, none⟩)) :: (75, .pointer (some ⟨q, 0, none⟩)) :: (74, .pointer (some ⟨q, 0, none⟩)) :: (73, .pointer (some ⟨p, 0, none⟩)) :: (72, .pointer (some ⟨p, 0, none⟩)) :: []) rfl) (puts_eval 95 77 hN ((88, .func (.func 33) #[.pointer (some ⟨p, 0, none⟩)] #[]) :: (87, .pointer (some ⟨p, 0, none⟩)) :: (84, .int .i64 (N : Int)) :: (83, .slice A9 N c9) :: (81, .int .i64 (t : Int)) :: (80, .pointer (some ⟨q, 3, none⟩)) :: (79, .pointer (some ⟨q, 0, none⟩)) :: (78, .pointer (some ⟨q, 0, none⟩)) :: (77, .int .i64 (area : Int)) :: (76, .pointer (some ⟨q, 1, none⟩)) :: (75, .pointer (some ⟨q, 0, none⟩)) :: (74, .pointer (some ⟨q, 0, none⟩)) :: (73, .pointer (some ⟨p, 0, none⟩)) :: (72, .pointer (some ⟨p, 0, none⟩)) :: []) rfl) (puts_eval 95 81 hN ((88, .func (.func 33) #[.pointer (some ⟨p, 0, none⟩)] #[]) :: (87, .pointer (some ⟨p, 0, none⟩)) :: (84, .int .i64 (N : Int)) :: (83, .slice A9 N c9) :: (81, .int .i64 (t : Int)) :: (80, .pointer (some ⟨q, 3, none⟩)) :: (79, .pointer (some ⟨q, 0, none⟩)) :: (78, .pointer (some ⟨q, 0, none⟩)) :: (77, .int .i64 (area : Int)) :: (76, .pointer (some ⟨q, 1, none⟩)) :: (75, .pointer (some ⟨q, 0, none⟩)) :: (74, .pointer (some ⟨q, 0, none⟩)) :: (73, .pointer (some ⟨p, 0, none⟩)) :: (72, .pointer (some ⟨p, 0, none⟩)) :: []) rfl)) (HWH _ hdr) ?_
    rintro r wa0 ⟨rfl, hwa⟩
    rw [hwa]
    refine ⟨fun _ => hS0, ?_⟩
    refine cast_act (puts_move a ((88, .func (.func 33) #[.pointer (some ⟨p, 0, none⟩)] #[]) :: (87, .pointer (some ⟨p, 0, none⟩)) :: (84, .int .i64 (N : Int)) :: (83, .slice A9 N c9) :: []) (82, .int .i64 ((((1 + area * half s.b.length + t) * 16) : Nat) : Int)) ((81, .int .i64 (t : Int)) :: (80, .pointer (some ⟨q, 3, none⟩)) :: (79, .pointer (some ⟨q, 0, none⟩)) :: (78, .pointer (some ⟨q, 0, none⟩)) :: (77, .int .i64 (area : Int)) :: (76, .pointer (some ⟨q, 1, none⟩)) :: (75, .pointer (some ⟨q, 0, none⟩)) :: (74, .pointer (some ⟨q, 0, none⟩)) :: (73, .pointer (some ⟨p, 0, none⟩)) :: (72, .pointer (some ⟨p, 0, none⟩)) :: []) rfl) ?_
    refine wpAnyK_one (i := 13) (by kernel_rfl) ?_
    refine sk_val rfl rfl (run_make (n := N) (by omega) (puts_eval 95 84 hN ((88, .func (.func 33) #[.pointer (some ⟨p, 0, none⟩)] #[]) :: (87, .pointer (some ⟨p, 0, none⟩)) :: (84, .int .i64 (N : Int)) :: (83, .slice A9 N c9) :: (82, .int .i64 ((((1 + area * half s.b.length + t) * 16) : Nat) : Int)) :: (81, .int .i64 (t : Int)) :: (80, .pointer (some ⟨q, 3, none⟩)) :: (79, .pointer (some ⟨q, 0, none⟩)) :: (78, .pointer (some ⟨q, 0, none⟩)) :: (77, .int .i64 (area : Int)) :: (76, .pointer (some ⟨q, 1, none⟩)) :: (75, .pointer (some ⟨q, 0, none⟩)) :: (74, .pointer (some ⟨q, 0, none⟩)) :: (73, .pointer (some ⟨p, 0, none⟩)) :: (72, .pointer (some ⟨p, 0, none⟩)) :: []) rfl)) ?_
    rw [hw1]
    refine ⟨fun _ => hS1, ?_⟩
    refine cast_act (puts_move a ((88, .func (.func 33) #[.pointer (some ⟨p, 0, none⟩)] #[]) :: (87, .pointer (some ⟨p, 0, none⟩)) :: []) (85, .slice (some ⟨w.drew.heap.size, 0, none⟩) N N) ((84, .int .i64 (N : Int)) :: (83, .slice A9 N c9) :: (82, .int .i64 ((((1 + area * half s.b.length + t) * 16) : Nat) : Int)) :: (81, .int .i64 (t : Int)) :: (80, .pointer (some ⟨q, 3, none⟩)) :: (79, .pointer (some ⟨q, 0, none⟩)) :: (78, .pointer (some ⟨q, 0, none⟩)) :: (77, .int .i64 (area : Int)) :: (76, .pointer (some ⟨q, 1, none⟩)) :: (75, .pointer (some ⟨q, 0, none⟩)) :: (74, .pointer (some ⟨q, 0, none⟩)) :: (73, .pointer (some ⟨p, 0, none⟩)) :: (72, .pointer (some ⟨p, 0, none⟩)) :: []) rfl) ?_
    refine wpAnyK_one (i := 14) (by kernel_rfl) ?_
    refine sk_calln rfl rfl c_write_fn c_write_nm c_write_bd (us := #[.pointer (some ⟨p, 0, none⟩), .int .i64 ((((1 + area * half s.b.length + t) * 16) : Nat) : Int), .slice (some ⟨w.drew.heap.size, 0, none⟩) N N]) rfl (map3 (puts_eval 95 72 hN ((88, .func (.func 33) #[.pointer (some ⟨p, 0, none⟩)] #[]) :: (87, .pointer (some ⟨p, 0, none⟩)) :: (85, .slice (some ⟨w.drew.heap.size, 0, none⟩) N N) :: (84, .int .i64 (N : Int)) :: (83, .slice A9 N c9) :: (82, .int .i64 ((((1 + area * half s.b.length + t) * 16) : Nat) : Int)) :: (81, .int .i64 (t : Int)) :: (80, .pointer (some ⟨q, 3, none⟩)) :: (79, .pointer (some ⟨q, 0, none⟩)) :: (78, .pointer (some ⟨q, 0, none⟩)) :: (77, .int .i64 (area : Int)) :: (76, .pointer (some ⟨q, 1, none⟩)) :: (75, .pointer (some ⟨q, 0, none⟩)) :: (74, .pointer (some ⟨q, 0, none⟩)) :: (73, .pointer (some ⟨p, 0, none⟩)) :: (72, .pointer (some ⟨p, 0, none⟩)) :: []) rfl) (puts_eval 95 82 hN ((88, .func (.func 33) #[.pointer (some ⟨p, 0, none⟩)] #[]) :: (87, .pointer (some ⟨p, 0, none⟩)) :: (85, .slice (some ⟨w.drew.heap.size, 0, none⟩) N N) :: (84, .int .i64 (N : Int)) :: (83, .slice A9 N c9) :: (82, .int .i64 ((((1 + area * half s.b.length + t) * 16) : Nat) : Int)) :: (81, .int .i64 (t : Int)) :: (80, .pointer (some ⟨q, 3, none⟩)) :: (79, .pointer (some ⟨q, 0, none⟩)) :: (78, .pointer (some ⟨q, 0, none⟩)) :: (77, .int .i64 (area : Int)) :: (76, .pointer (some ⟨q, 1, none⟩)) :: (75, .pointer (some ⟨q, 0, none⟩)) :: (74, .pointer (some ⟨q, 0, none⟩)) :: (73, .pointer (some ⟨p, 0, none⟩)) :: (72, .pointer (some ⟨p, 0, none⟩)) :: []) rfl) (puts_eval 95 85 hN ((88, .func (.func 33) #[.pointer (some ⟨p, 0, none⟩)] #[]) :: (87, .pointer (some ⟨p, 0, none⟩)) :: (85, .slice (some ⟨w.drew.heap.size, 0, none⟩) N N) :: (84, .int .i64 (N : Int)) :: (83, .slice A9 N c9) :: (82, .int .i64 ((((1 + area * half s.b.length + t) * 16) : Nat) : Int)) :: (81, .int .i64 (t : Int)) :: (80, .pointer (some ⟨q, 3, none⟩)) :: (79, .pointer (some ⟨q, 0, none⟩)) :: (78, .pointer (some ⟨q, 0, none⟩)) :: (77, .int .i64 (area : Int)) :: (76, .pointer (some ⟨q, 1, none⟩)) :: (75, .pointer (some ⟨q, 0, none⟩)) :: (74, .pointer (some ⟨q, 0, none⟩)) :: (73, .pointer (some ⟨p, 0, none⟩)) :: (72, .pointer (some ⟨p, 0, none⟩)) :: []) rfl)) HWR ?_
    rintro r w2 ⟨z, rfl, hc2, hb2⟩
    have hS2 := hkeep2 w2 hb2
    refine ⟨fun _ => hS2, ?_⟩
    refine cast_act (puts_move a ((88, .func (.func 33) #[.pointer (some ⟨p, 0, none⟩)] #[]) :: (87, .pointer (some ⟨p, 0, none⟩)) :: []) (86, .func (.func 49) #[] #[.pointer (some ⟨z + 2, 0, none⟩), .pointer (some ⟨z, 0, none⟩), .pointer (some ⟨z + 1, 0, none⟩)]) ((85, .slice (some ⟨w.drew.heap.size, 0, none⟩) N N) :: (84, .int .i64 (N : Int)) :: (83, .slice A9 N c9) :: (82, .int .i64 ((((1 + area * half s.b.length + t) * 16) : Nat) : Int)) :: (81, .int .i64 (t : Int)) :: (80, .pointer (some ⟨q, 3, none⟩)) :: (79, .pointer (some ⟨q, 0, none⟩)) :: (78, .pointer (some ⟨q, 0, none⟩)) :: (77, .int .i64 (area : Int)) :: (76, .pointer (some ⟨q, 1, none⟩)) :: (75, .pointer (some ⟨q, 0, none⟩)) :: (74, .pointer (some ⟨q, 0, none⟩)) :: (73, .pointer (some ⟨p, 0, none⟩)) :: (72, .pointer (some ⟨p, 0, none⟩)) :: []) rfl) ?_
    refine wpAnyK_one (i := 17) (by kernel_rfl) ?_
    refine sk_val rfl rfl (run_fs2 (puts_eval 95 86 hN ((88, .func (.func 33) #[.pointer (some ⟨p, 0, none⟩)] #[]) :: (87, .pointer (some ⟨p, 0, none⟩)) :: (86, .func (.func 49) #[] #[.pointer (some ⟨z + 2, 0, none⟩), .pointer (some ⟨z, 0, none⟩), .pointer (some ⟨z + 1, 0, none⟩)]) :: (85, .slice (some ⟨w.drew.heap.size, 0, none⟩) N N) :: (84, .int .i64 (N : Int)) :: (83, .slice A9 N c9) :: (82, .int .i64 ((((1 + area * half s.b.length + t) * 16) : Nat) : Int)) :: (81, .int .i64 (t : Int)) :: (80, .pointer (some ⟨q, 3, none⟩)) :: (79, .pointer (some ⟨q, 0, none⟩)) :: (78, .pointer (some ⟨q, 0, none⟩)) :: (77, .int .i64 (area : Int)) :: (76, .pointer (some ⟨q, 1, none⟩)) :: (75, .pointer (some ⟨q, 0, none⟩)) :: (74, .pointer (some ⟨q, 0, none⟩)) :: (73, .pointer (some ⟨p, 0, none⟩)) :: (72, .pointer (some ⟨p, 0, none⟩)) :: []) rfl) (puts_eval 95 88 hN ((88, .func (.func 33) #[.pointer (some ⟨p, 0, none⟩)] #[]) :: (87, .pointer (some ⟨p, 0, none⟩)) :: (86, .func (.func 49) #[] #[.pointer (some ⟨z + 2, 0, none⟩), .pointer (some ⟨z, 0, none⟩), .pointer (some ⟨z + 1, 0, none⟩)]) :: (85, .slice (some ⟨w.drew.heap.size, 0, none⟩) N N) :: (84, .int .i64 (N : Int)) :: (83, .slice A9 N c9) :: (82, .int .i64 ((((1 + area * half s.b.length + t) * 16) : Nat) : Int)) :: (81, .int .i64 (t : Int)) :: (80, .pointer (some ⟨q, 3, none⟩)) :: (79, .pointer (some ⟨q, 0, none⟩)) :: (78, .pointer (some ⟨q, 0, none⟩)) :: (77, .int .i64 (area : Int)) :: (76, .pointer (some ⟨q, 1, none⟩)) :: (75, .pointer (some ⟨q, 0, none⟩)) :: (74, .pointer (some ⟨q, 0, none⟩)) :: (73, .pointer (some ⟨p, 0, none⟩)) :: (72, .pointer (some ⟨p, 0, none⟩)) :: []) rfl)) ?_
    have hS3 := hkeep3 w2 hb2 (.cells #[(St.w (z + 2) z (z + 1)).val, (St.s p).val] 64)
    refine ⟨fun _ => hS3, ?_⟩
    refine wpAnyK_one (i := 18) (by kernel_rfl) ?_
    refine sk_calln rfl rfl c_steps_fn c_steps_nm c_steps_bd (us := #[.slice (some ⟨w2.heap.size, 0, none⟩) 2 2]) rfl (map1 (puts_eval 95 89 hN ((89, .slice (some ⟨w2.heap.size, 0, none⟩) 2 2) :: (88, .func (.func 33) #[.pointer (some ⟨p, 0, none⟩)] #[]) :: (87, .pointer (some ⟨p, 0, none⟩)) :: (86, .func (.func 49) #[] #[.pointer (some ⟨z + 2, 0, none⟩), .pointer (some ⟨z, 0, none⟩), .pointer (some ⟨z + 1, 0, none⟩)]) :: (85, .slice (some ⟨w.drew.heap.size, 0, none⟩) N N) :: (84, .int .i64 (N : Int)) :: (83, .slice A9 N c9) :: (82, .int .i64 ((((1 + area * half s.b.length + t) * 16) : Nat) : Int)) :: (81, .int .i64 (t : Int)) :: (80, .pointer (some ⟨q, 3, none⟩)) :: (79, .pointer (some ⟨q, 0, none⟩)) :: (78, .pointer (some ⟨q, 0, none⟩)) :: (77, .int .i64 (area : Int)) :: (76, .pointer (some ⟨q, 1, none⟩)) :: (75, .pointer (some ⟨q, 0, none⟩)) :: (74, .pointer (some ⟨q, 0, none⟩)) :: (73, .pointer (some ⟨p, 0, none⟩)) :: (72, .pointer (some ⟨p, 0, none⟩)) :: []) rfl)) (clean_steps (w0 := w.drew) (w1 := w1) (w2 := w2) hSRd o ha (by omega) (Nat.le_refl _) hrow hb01 hb2 hc2) ?_
    rintro r w4 ⟨rfl, hs4, hf4⟩
    refine ⟨fun h => absurd h (by decide), ?_⟩
    refine wk_lastv (fuel := 0) (i := 19) rfl rfl rfl (by kernel_rfl) (by kernel_rfl) (by kernel_rfl) (run_assign (puts_eval 95 90 hN ((90, .int .i64 (cleanD s ((1 + area * half s.b.length + t) * 16) N).2) :: (89, .slice (some ⟨w2.heap.size, 0, none⟩) 2 2) :: (88, .func (.func 33) #[.pointer (some ⟨p, 0, none⟩)] #[]) :: (87, .pointer (some ⟨p, 0, none⟩)) :: (86, .func (.func 49) #[] #[.pointer (some ⟨z + 2, 0, none⟩), .pointer (some ⟨z, 0, none⟩), .pointer (some ⟨z + 1, 0, none⟩)]) :: (85, .slice (some ⟨w.drew.heap.size, 0, none⟩) N N) :: (84, .int .i64 (N : Int)) :: (83, .slice A9 N c9) :: (82, .int .i64 ((((1 + area * half s.b.length + t) * 16) : Nat) : Int)) :: (81, .int .i64 (t : Int)) :: (80, .pointer (some ⟨q, 3, none⟩)) :: (79, .pointer (some ⟨q, 0, none⟩)) :: (78, .pointer (some ⟨q, 0, none⟩)) :: (77, .int .i64 (area : Int)) :: (76, .pointer (some ⟨q, 1, none⟩)) :: (75, .pointer (some ⟨q, 0, none⟩)) :: (74, .pointer (some ⟨q, 0, none⟩)) :: (73, .pointer (some ⟨p, 0, none⟩)) :: (72, .pointer (some ⟨p, 0, none⟩)) :: []) rfl)) ?_
    exact hQ _ _ _ _ _ _ _ _ _ _ _ _ _ _ _ _ _ _ _ _ hs4 ((Fr.of_below hdr).trans hf4)
  · refine sk_val rfl rfl (run_make (n := N) (by omega) (puts_eval 95 84 hN ((88, .func (.func 33) #[.pointer (some ⟨p, 0, none⟩)] #[]) :: (87, .pointer (some ⟨p, 0, none⟩)) :: (84, .int .i64 (N : Int)) :: (83, .slice A9 N c9) :: (81, .int .i64 (t : Int)) :: (80, .pointer (some ⟨q, 3, none⟩)) :: (79, .pointer (some ⟨q, 0, none⟩)) :: (78, .pointer (some ⟨q, 0, none⟩)) :: (77, .int .i64 (area : Int)) :: (76, .pointer (some ⟨q, 1, none⟩)) :: (75, .pointer (some ⟨q, 0, none⟩)) :: (74, .pointer (some ⟨q, 0, none⟩)) :: (73, .pointer (some ⟨p, 0, none⟩)) :: (72, .pointer (some ⟨p, 0, none⟩)) :: []) rfl)) ?_
    rw [hw1]
    refine ⟨fun _ => hS1, ?_⟩
    refine cast_act (puts_move a ((88, .func (.func 33) #[.pointer (some ⟨p, 0, none⟩)] #[]) :: (87, .pointer (some ⟨p, 0, none⟩)) :: []) (85, .slice (some ⟨w.drew.heap.size, 0, none⟩) N N) ((84, .int .i64 (N : Int)) :: (83, .slice A9 N c9) :: (81, .int .i64 (t : Int)) :: (80, .pointer (some ⟨q, 3, none⟩)) :: (79, .pointer (some ⟨q, 0, none⟩)) :: (78, .pointer (some ⟨q, 0, none⟩)) :: (77, .int .i64 (area : Int)) :: (76, .pointer (some ⟨q, 1, none⟩)) :: (75, .pointer (some ⟨q, 0, none⟩)) :: (74, .pointer (some ⟨q, 0, none⟩)) :: (73, .pointer (some ⟨p, 0, none⟩)) :: (72, .pointer (some ⟨p, 0, none⟩)) :: []) rfl) ?_
    refine wpAnyK_one (i := 10) (by kernel_rfl) ?_
    refine sk_calln rfl rfl c_where_fn c_where_nm c_where_bd (us := #[.pointer (some ⟨p, 0, none⟩), .int .i64 (area : Int), .int .i64 (t : Int)]) rfl (map3 (puts_eval 95 73 hN ((88, .func (.func 33) #[.pointer (some ⟨p, 0, none⟩)] #[]) :: (87, .pointer (some ⟨p, 0, none⟩)) :: (85, .slice (some ⟨w.drew.heap.size, 0, none⟩) N N) :: (84, .int .i64 (N : Int)) :: (83, .slice A9 N c9) :: (81, .int .i64 (t : Int)) :: (80, .pointer (some ⟨q, 3, none⟩)) :: (79, .pointer (some ⟨q, 0, none⟩)) :: (78, .pointer (some ⟨q, 0, none⟩)) :: (77, .int .i64 (area : Int)) :: (76, .pointer (some ⟨q, 1, none⟩)) :: (75, .pointer (some ⟨q, 0, none⟩)) :: (74, .pointer (some ⟨q, 0, none⟩)) :: (73, .pointer (some ⟨p, 0, none⟩)) :: (72, .pointer (some ⟨p, 0, none⟩)) :: []) rfl) (puts_eval 95 77 hN ((88, .func (.func 33) #[.pointer (some ⟨p, 0, none⟩)] #[]) :: (87, .pointer (some ⟨p, 0, none⟩)) :: (85, .slice (some ⟨w.drew.heap.size, 0, none⟩) N N) :: (84, .int .i64 (N : Int)) :: (83, .slice A9 N c9) :: (81, .int .i64 (t : Int)) :: (80, .pointer (some ⟨q, 3, none⟩)) :: (79, .pointer (some ⟨q, 0, none⟩)) :: (78, .pointer (some ⟨q, 0, none⟩)) :: (77, .int .i64 (area : Int)) :: (76, .pointer (some ⟨q, 1, none⟩)) :: (75, .pointer (some ⟨q, 0, none⟩)) :: (74, .pointer (some ⟨q, 0, none⟩)) :: (73, .pointer (some ⟨p, 0, none⟩)) :: (72, .pointer (some ⟨p, 0, none⟩)) :: []) rfl) (puts_eval 95 81 hN ((88, .func (.func 33) #[.pointer (some ⟨p, 0, none⟩)] #[]) :: (87, .pointer (some ⟨p, 0, none⟩)) :: (85, .slice (some ⟨w.drew.heap.size, 0, none⟩) N N) :: (84, .int .i64 (N : Int)) :: (83, .slice A9 N c9) :: (81, .int .i64 (t : Int)) :: (80, .pointer (some ⟨q, 3, none⟩)) :: (79, .pointer (some ⟨q, 0, none⟩)) :: (78, .pointer (some ⟨q, 0, none⟩)) :: (77, .int .i64 (area : Int)) :: (76, .pointer (some ⟨q, 1, none⟩)) :: (75, .pointer (some ⟨q, 0, none⟩)) :: (74, .pointer (some ⟨q, 0, none⟩)) :: (73, .pointer (some ⟨p, 0, none⟩)) :: (72, .pointer (some ⟨p, 0, none⟩)) :: []) rfl)) (HWH _ hB1) ?_
    rintro r wa0 ⟨rfl, hwa⟩
    rw [hwa]
    refine ⟨fun _ => hS1, ?_⟩
    refine cast_act (puts_move a ((88, .func (.func 33) #[.pointer (some ⟨p, 0, none⟩)] #[]) :: (87, .pointer (some ⟨p, 0, none⟩)) :: (85, .slice (some ⟨w.drew.heap.size, 0, none⟩) N N) :: (84, .int .i64 (N : Int)) :: (83, .slice A9 N c9) :: []) (82, .int .i64 ((((1 + area * half s.b.length + t) * 16) : Nat) : Int)) ((81, .int .i64 (t : Int)) :: (80, .pointer (some ⟨q, 3, none⟩)) :: (79, .pointer (some ⟨q, 0, none⟩)) :: (78, .pointer (some ⟨q, 0, none⟩)) :: (77, .int .i64 (area : Int)) :: (76, .pointer (some ⟨q, 1, none⟩)) :: (75, .pointer (some ⟨q, 0, none⟩)) :: (74, .pointer (some ⟨q, 0, none⟩)) :: (73, .pointer (some ⟨p, 0, none⟩)) :: (72, .pointer (some ⟨p, 0, none⟩)) :: []) rfl) ?_
    refine wpAnyK_one (i := 14) (by kernel_rfl) ?_
    refine sk_calln rfl rfl c_write_fn c_write_nm c_write_bd (us := #[.pointer (some ⟨p, 0, none⟩), .int .i64 ((((1 + area * half s.b.length + t) * 16) : Nat) : Int), .slice (some ⟨w.drew.heap.size, 0, none⟩) N N]) rfl (map3 (puts_eval 95 72 hN ((88, .func (.func 33) #[.pointer (some ⟨p, 0, none⟩)] #[]) :: (87, .pointer (some ⟨p, 0, none⟩)) :: (85, .slice (some ⟨w.drew.heap.size, 0, none⟩) N N) :: (84, .int .i64 (N : Int)) :: (83, .slice A9 N c9) :: (82, .int .i64 ((((1 + area * half s.b.length + t) * 16) : Nat) : Int)) :: (81, .int .i64 (t : Int)) :: (80, .pointer (some ⟨q, 3, none⟩)) :: (79, .pointer (some ⟨q, 0, none⟩)) :: (78, .pointer (some ⟨q, 0, none⟩)) :: (77, .int .i64 (area : Int)) :: (76, .pointer (some ⟨q, 1, none⟩)) :: (75, .pointer (some ⟨q, 0, none⟩)) :: (74, .pointer (some ⟨q, 0, none⟩)) :: (73, .pointer (some ⟨p, 0, none⟩)) :: (72, .pointer (some ⟨p, 0, none⟩)) :: []) rfl) (puts_eval 95 82 hN ((88, .func (.func 33) #[.pointer (some ⟨p, 0, none⟩)] #[]) :: (87, .pointer (some ⟨p, 0, none⟩)) :: (85, .slice (some ⟨w.drew.heap.size, 0, none⟩) N N) :: (84, .int .i64 (N : Int)) :: (83, .slice A9 N c9) :: (82, .int .i64 ((((1 + area * half s.b.length + t) * 16) : Nat) : Int)) :: (81, .int .i64 (t : Int)) :: (80, .pointer (some ⟨q, 3, none⟩)) :: (79, .pointer (some ⟨q, 0, none⟩)) :: (78, .pointer (some ⟨q, 0, none⟩)) :: (77, .int .i64 (area : Int)) :: (76, .pointer (some ⟨q, 1, none⟩)) :: (75, .pointer (some ⟨q, 0, none⟩)) :: (74, .pointer (some ⟨q, 0, none⟩)) :: (73, .pointer (some ⟨p, 0, none⟩)) :: (72, .pointer (some ⟨p, 0, none⟩)) :: []) rfl) (puts_eval 95 85 hN ((88, .func (.func 33) #[.pointer (some ⟨p, 0, none⟩)] #[]) :: (87, .pointer (some ⟨p, 0, none⟩)) :: (85, .slice (some ⟨w.drew.heap.size, 0, none⟩) N N) :: (84, .int .i64 (N : Int)) :: (83, .slice A9 N c9) :: (82, .int .i64 ((((1 + area * half s.b.length + t) * 16) : Nat) : Int)) :: (81, .int .i64 (t : Int)) :: (80, .pointer (some ⟨q, 3, none⟩)) :: (79, .pointer (some ⟨q, 0, none⟩)) :: (78, .pointer (some ⟨q, 0, none⟩)) :: (77, .int .i64 (area : Int)) :: (76, .pointer (some ⟨q, 1, none⟩)) :: (75, .pointer (some ⟨q, 0, none⟩)) :: (74, .pointer (some ⟨q, 0, none⟩)) :: (73, .pointer (some ⟨p, 0, none⟩)) :: (72, .pointer (some ⟨p, 0, none⟩)) :: []) rfl)) HWR ?_
    rintro r w2 ⟨z, rfl, hc2, hb2⟩
    have hS2 := hkeep2 w2 hb2
    refine ⟨fun _ => hS2, ?_⟩
    refine cast_act (puts_move a ((88, .func (.func 33) #[.pointer (some ⟨p, 0, none⟩)] #[]) :: (87, .pointer (some ⟨p, 0, none⟩)) :: []) (86, .func (.func 49) #[] #[.pointer (some ⟨z + 2, 0, none⟩), .pointer (some ⟨z, 0, none⟩), .pointer (some ⟨z + 1, 0, none⟩)]) ((85, .slice (some ⟨w.drew.heap.size, 0, none⟩) N N) :: (84, .int .i64 (N : Int)) :: (83, .slice A9 N c9) :: (82, .int .i64 ((((1 + area * half s.b.length + t) * 16) : Nat) : Int)) :: (81, .int .i64 (t : Int)) :: (80, .pointer (some ⟨q, 3, none⟩)) :: (79, .pointer (some ⟨q, 0, none⟩)) :: (78, .pointer (some ⟨q, 0, none⟩)) :: (77, .int .i64 (area : Int)) :: (76, .pointer (some ⟨q, 1, none⟩)) :: (75, .pointer (some ⟨q, 0, none⟩)) :: (74, .pointer (some ⟨q, 0, none⟩)) :: (73, .pointer (some ⟨p, 0, none⟩)) :: (72, .pointer (some ⟨p, 0, none⟩)) :: []) rfl) ?_
    refine wpAnyK_one (i := 17) (by kernel_rfl) ?_
    refine sk_val rfl rfl (run_fs2 (puts_eval 95 86 hN ((88, .func (.func 33) #[.pointer (some ⟨p, 0, none⟩)] #[]) :: (87, .pointer (some ⟨p, 0, none⟩)) :: (86, .func (.func 49) #[] #[.pointer (some ⟨z + 2, 0, none⟩), .pointer (some ⟨z, 0, none⟩), .pointer (some ⟨z + 1, 0, none⟩)]) :: (85, .slice (some ⟨w.drew.heap.size, 0, none⟩) N N) :: (84, .int .i64 (N : Int)) :: (83, .slice A9 N c9) :: (82, .int .i64 ((((1 + area * half s.b.length + t) * 16) : Nat) : Int)) :: (81, .int .i64 (t : Int)) :: (80, .pointer (some ⟨q, 3, none⟩)) :: (79, .pointer (some ⟨q, 0, none⟩)) :: (78, .pointer (some ⟨q, 0, none⟩)) :: (77, .int .i64 (area : Int)) :: (76, .pointer (some ⟨q, 1, none⟩)) :: (75, .pointer (some ⟨q, 0, none⟩)) :: (74, .pointer (some ⟨q, 0, none⟩)) :: (73, .pointer (some ⟨p, 0, none⟩)) :: (72, .pointer (some ⟨p, 0, none⟩)) :: []) rfl) (puts_eval 95 88 hN ((88, .func (.func 33) #[.pointer (some ⟨p, 0, none⟩)] #[]) :: (87, .pointer (some ⟨p, 0, none⟩)) :: (86, .func (.func 49) #[] #[.pointer (some ⟨z + 2, 0, none⟩), .pointer (some ⟨z, 0, none⟩), .pointer (some ⟨z + 1, 0, none⟩)]) :: (85, .slice (some ⟨w.drew.heap.size, 0, none⟩) N N) :: (84, .int .i64 (N : Int)) :: (83, .slice A9 N c9) :: (82, .int .i64 ((((1 + area * half s.b.length + t) * 16) : Nat) : Int)) :: (81, .int .i64 (t : Int)) :: (80, .pointer (some ⟨q, 3, none⟩)) :: (79, .pointer (some ⟨q, 0, none⟩)) :: (78, .pointer (some ⟨q, 0, none⟩)) :: (77, .int .i64 (area : Int)) :: (76, .pointer (some ⟨q, 1, none⟩)) :: (75, .pointer (some ⟨q, 0, none⟩)) :: (74, .pointer (some ⟨q, 0, none⟩)) :: (73, .pointer (some ⟨p, 0, none⟩)) :: (72, .pointer (some ⟨p, 0, none⟩)) :: []) rfl)) ?_
    have hS3 := hkeep3 w2 hb2 (.cells #[(St.w (z + 2) z (z + 1)).val, (St.s p).val] 64)
    refine ⟨fun _ => hS3, ?_⟩
    refine wpAnyK_one (i := 18) (by kernel_rfl) ?_
    refine sk_calln rfl rfl c_steps_fn c_steps_nm c_steps_bd (us := #[.slice (some ⟨w2.heap.size, 0, none⟩) 2 2]) rfl (map1 (puts_eval 95 89 hN ((89, .slice (some ⟨w2.heap.size, 0, none⟩) 2 2) :: (88, .func (.func 33) #[.pointer (some ⟨p, 0, none⟩)] #[]) :: (87, .pointer (some ⟨p, 0, none⟩)) :: (86, .func (.func 49) #[] #[.pointer (some ⟨z + 2, 0, none⟩), .pointer (some ⟨z, 0, none⟩), .pointer (some ⟨z + 1, 0, none⟩)]) :: (85, .slice (some ⟨w.drew.heap.size, 0, none⟩) N N) :: (84, .int .i64 (N : Int)) :: (83, .slice A9 N c9) :: (82, .int .i64 ((((1 + area * half s.b.length + t) * 16) : Nat) : Int)) :: (81, .int .i64 (t : Int)) :: (80, .pointer (some ⟨q, 3, none⟩)) :: (79, .pointer (some ⟨q, 0, none⟩)) :: (78, .pointer (some ⟨q, 0, none⟩)) :: (77, .int .i64 (area : Int)) :: (76, .pointer (some ⟨q, 1, none⟩)) :: (75, .pointer (some ⟨q, 0, none⟩)) :: (74, .pointer (some ⟨q, 0, none⟩)) :: (73, .pointer (some ⟨p, 0, none⟩)) :: (72, .pointer (some ⟨p, 0, none⟩)) :: []) rfl)) (clean_steps (w0 := w.drew) (w1 := w1) (w2 := w2) hSRd o ha (by omega) (Nat.le_refl _) hrow hb01 hb2 hc2) ?_
    rintro r w4 ⟨rfl, hs4, hf4⟩
    refine ⟨fun h => absurd h (by decide), ?_⟩
    refine wk_lastv (fuel := 0) (i := 19) rfl rfl rfl (by kernel_rfl) (by kernel_rfl) (by kernel_rfl) (run_assign (puts_eval 95 90 hN ((90, .int .i64 (cleanD s ((1 + area * half s.b.length + t) * 16) N).2) :: (89, .slice (some ⟨w2.heap.size, 0, none⟩) 2 2) :: (88, .func (.func 33) #[.pointer (some ⟨p, 0, none⟩)] #[]) :: (87, .pointer (some ⟨p, 0, none⟩)) :: (86, .func (.func 49) #[] #[.pointer (some ⟨z + 2, 0, none⟩), .pointer (some ⟨z, 0, none⟩), .pointer (some ⟨z + 1, 0, none⟩)]) :: (85, .slice (some ⟨w.drew.heap.size, 0, none⟩) N N) :: (84, .int .i64 (N : Int)) :: (83, .slice A9 N c9) :: (82, .int .i64 ((((1 + area * half s.b.length + t) * 16) : Nat) : Int)) :: (81, .int .i64 (t : Int)) :: (80, .pointer (some ⟨q, 3, none⟩)) :: (79, .pointer (some ⟨q, 0, none⟩)) :: (78, .pointer (some ⟨q, 0, none⟩)) :: (77, .int .i64 (area : Int)) :: (76, .pointer (some ⟨q, 1, none⟩)) :: (75, .pointer (some ⟨q, 0, none⟩)) :: (74, .pointer (some ⟨q, 0, none⟩)) :: (73, .pointer (some ⟨p, 0, none⟩)) :: (72, .pointer (some ⟨p, 0, none⟩)) :: []) rfl)) ?_
    exact hQ _ _ _ _ _ _ _ _ _ _ _ _ _ _ _ _ _ _ _ _ hs4 ((Fr.of_below hdr).trans hf4)
end Go.Proofs.YtnobhjpobnmiaaaDoor.Wl
