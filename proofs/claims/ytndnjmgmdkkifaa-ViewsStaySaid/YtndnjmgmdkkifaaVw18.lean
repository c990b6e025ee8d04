/- The walk of the law's head. -/
import Derived.Test.YtndnjmgmdkkifaaVw17
namespace Go.Proofs.Ytndnjmgmdkkifaa.Vw1
open Go Go.RowKit Go.Maps Go.Proofs Go.Proofs.Ytndnjmgmdkkifaa.New Go.Proofs.Ytndnjmgmdkkifaa.Vw Go.Proofs.Ytndnjmgmdkkifaa.Vw0 Go.Proofs.YtndnjmgmdkkifaaW.PrintWords Go.Proofs.YtndnjmgmdkkifaaW.PrintLast Go.Proofs.YtndnjmgmdkkifaaW.PrintMore
set_option linter.unusedVariables false
set_option linter.unusedSimpArgs false

/-! ### head's script -/
def hE : ByteArray := ⟨#[101]⟩
def hA0 : V := made 0 3 0 0 []
def hB0 : V := made 1 3 0 0 []
def hA1 : V := (hA0.propose hE).1
def hL : Ltr := (hA1.send 1).1
def hB1 : V := (hB0.take 0 hL).1
def hM : Ltr := (hB1.send 0).1
def hA2 : V := (hA1.take 1 hM).1
def hB2 : V := hB1.turn.1
def hN : Ltr := (hB2.send 2).1
theorem hx1 : (hA0.propose hE).2 = true := by decide
theorem hx2 : (hA1.send 1).2 = true := by decide
theorem hx3 : (hB0.take 0 hL).2 = true := by decide
theorem hx4 : (hB1.send 0).2 = true := by decide
theorem hx5 : (hA1.take 1 hM).2 = true := by decide
theorem hx6 : hB1.turn.2 = true := by decide
theorem hx7 : (hB2.send 2).2 = false := by decide
theorem hy1 : hA2.stays = 1 := by decide
theorem hy2 : hA2.firstB = true := by decide
theorem hy3 : hB2.stays = 0 := by decide
theorem hy4 : hN.kind = 0 := by decide
theorem hy5 : hB2.view = 1 := by decide
theorem hy6 : hB2.normal = 0 := by decide
theorem hy7 : hB2.log.length = 1 := by decide
theorem hy8 : hM.kind = 2 := by decide
theorem hy9 : hM.len = 1 := by decide
theorem hz1 : hL.log.length = 1 := by decide
theorem hz2 : ∀ z ∈ hL.log, z.size ≤ 140737488355328 := by decide
theorem hz3 : hM.log.length = 0 := by decide
theorem hz4 : ∀ z ∈ hM.log, z.size ≤ 140737488355328 := by decide
theorem new_empty (W : World) {me many : Int} {s : V} (h : newV me many 0 0 [] = some s) :
    Calls Try.prog 12 #[.int .i64 me, .int .i64 many, .agg #[.int .i64 0, .int .i64 0, .slice none 0 0]] W fun e w' => ∃ p, e = .returned (.pointer (some ⟨p, 0, none⟩)) ∧ Pt W.heap.size w' p s ∧ Below W.heap.size W w' := pt_new (log := []) h none 0 (rd_nil W).C1.2
theorem new_empty_nil (W : World) {me many : Int} (h : newV me many 0 0 [] = none) :
    Calls Try.prog 12 #[.int .i64 me, .int .i64 many, .agg #[.int .i64 0, .int .i64 0, .slice none 0 0]] W fun e w' => e = .returned (.pointer none) ∧ Below W.heap.size W w' :=
  new_nil (log := []) h none 0 (rd_nil W).C1.2 (by simp) (by simp)
def two {α : Type} (a b : α) : Nat → α := fun k => if k = 0 then a else b
theorem two_of {B : Nat} {w : World} {p : Nat → Nat} {s : Nat → V} (h : Parts B w 2 p s) {a b : Nat} {x y : V} (h1 : p 0 = a) (h2 : p 1 = b) (h3 : s 0 = x) (h4 : s 1 = y) : Parts B w 2 (two a b) (two x y) := by
  subst h1 h2 h3 h4
  obtain ⟨own, h⟩ := h
  refine ⟨own, fun i hi => ?_⟩
  have : i = 0 ∨ i = 1 := by omega
  rcases this with rfl | rfl
  · exact h 0 hi
  · exact h 1 hi
theorem cells8_put {w : World} {g : Nat} {v0 v1 v2 v3 v4 v5 v6 v7 : Value} {t : TypeId} (h : w.heap[g]? = some (.cells #[v0, v1, v2, v3, v4, v5, v6, v7] t (0, 0))) : True := trivial
set_option maxHeartbeats 4000000 in
set_option maxRecDepth 100000 in
theorem head_calls (W : World) : Calls Try.prog 10 #[] W fun e w' => e = .returned (.bool true) ∧ Below W.heap.size W w' := by
  have HN0 := Lib.hid (fun w => new_empty w (me := 0) (many := 3) (s := hA0) rfl)
  have HN1 := Lib.hid (fun w => new_empty w (me := 1) (many := 3) (s := hB0) rfl)
  have HN2 := Lib.hid (fun w => new_empty_nil w (me := 3) (many := 3) rfl)
  go_enter Try.func10, Try.ntmps10
  go_wp2_with fail
  refine (HN0.out _).mono ?_
  rintro e w1 ⟨qa, rfl, hp1, hb1⟩
  have HP1 := Lib.hid (parts_add (Parts.none W.heap.size W (fun _ => 0) (fun _ => hA0)) (Nat.le_refl _) hb1 hp1)
  have HB1 := Lib.hid hb1
  clear hp1 hb1 HN0
  go_wp2_with fail
  refine (HN1.out _).mono ?_
  rintro e w2 ⟨qb, rfl, hp2, hb2⟩
  have HP2 := Lib.hid (two_of (a := qa) (b := qb) (x := hA0) (y := hB0) (parts_add HP1.out HB1.out.size hb2 hp2) rfl rfl rfl rfl)
  have HB2 := Lib.hid (below_step HB1.out hb2)
  clear hp2 hb2 HN1 HP1 HB1
  go_wp2_with fail
  refine (HN2.out _).mono ?_
  rintro e w3 ⟨rfl, hb3⟩
  have HP3 := Lib.hid (HP2.out.below hb3)
  have HB3 := Lib.hid (below_step HB2.out hb3)
  clear hb3 HN2 HP2 HB2
  go_wp2_with fail
  refine (parts_propose HP3.out (i := 0) (by omega) rfl hE (by decide)).mono ?_
  rintro e w4 ⟨he, hp4, hs4⟩
  rw [show ((two hA0 hB0 0).propose hE).2 = true from hx1] at he
  subst he
  have HP4 := Lib.hid (two_of (a := qa) (b := qb) (x := hA1) (y := hB0) hp4 rfl rfl rfl rfl)
  have HB4 := Lib.hid (HB3.out.trans hs4.below)
  clear hp4 hs4 HP3 HB3
  go_wp2_with fail
  refine (pt_send (HP4.out.pt (i := 0) (by omega)) 1).mono ?_
  rintro e w5 ⟨A5, c5, he, hr5, hb5⟩
  change e = Ending.returned (Value.tuple #[ltrV hL A5 c5, Value.bool (hA1.send 1).2]) at he
  rw [hx2] at he
  change Rd w5 (.slice A5 hL.log.length c5) hL.log at hr5
  subst he
  have HP5 := Lib.hid (HP4.out.below hb5)
  have HB5 := Lib.hid (below_step HB4.out hb5)
  have HR5 := Lib.hid hr5
  clear hr5 hb5 HP4 HB4
  unfold ltrV
  go_wp2_with fail
  refine (parts_take (i := 1) (HP5.out.below (below_alloc (Below.refl _ _) _)) (by omega) rfl 0 hL A5 c5 (Far.of_rd (HR5.out.below (below_alloc (Below.refl _ _) _))) (by rw [hz1]; omega) hz2).mono ?_
  rintro e w6 ⟨he, hp6, hs6⟩
  rw [show ((two hA1 hB0 1).take 0 hL).2 = true from hx3] at he
  subst he
  have HP6 := Lib.hid (two_of (a := qa) (b := qb) (x := hA1) (y := hB1) hp6 rfl rfl rfl rfl)
  have HB6 := Lib.hid ((below_alloc HB5.out _).trans hs6.below)
  clear hp6 hs6 HP5 HB5 HR5
  go_wp2_with fail
  refine (pt_send (HP6.out.pt (i := 1) (by omega)) 0).mono ?_
  rintro e w7 ⟨A7, c7, he, hr7, hb7⟩
  change e = Ending.returned (Value.tuple #[ltrV hM A7 c7, Value.bool (hB1.send 0).2]) at he
  rw [hx4] at he
  change Rd w7 (.slice A7 hM.log.length c7) hM.log at hr7
  subst he
  have HP7 := Lib.hid (HP6.out.below hb7)
  have HB7 := Lib.hid (below_step HB6.out hb7)
  have HR7 := Lib.hid hr7
  clear hr7 hb7 HP6 HB6
  unfold ltrV
  go_wp2_with fail
  have hn7 := blk_new w7 (Obj.cells #[.int .i64 hM.kind, .int .i64 hM.view, .int .i64 hM.normal, .int .i64 hM.len, .int .i64 hM.stays, .slice A7 hM.log.length c7, .int .i64 hM.num, .string hM.text] 33)
  have HP8 := Lib.hid (HP7.out.below (below_alloc (Below.refl _ _) (Obj.cells #[.int .i64 hM.kind, .int .i64 hM.view, .int .i64 hM.normal, .int .i64 hM.len, .int .i64 hM.stays, .slice A7 hM.log.length c7, .int .i64 hM.num, .string hM.text] 33)))
  refine (parts_take (i := 0) HP8.out (by omega) rfl 1 hM A7 c7 (Far.of_rd (HR7.out.below (below_alloc (Below.refl _ _) _))) (by rw [hz3]; omega) hz4).mono ?_
  rintro e w8 ⟨he, hp8, hs8⟩
  rw [show ((two hA1 hB1 0).take 1 hM).2 = true from hx5] at he
  subst he
  have HM8 := Lib.hid (hs8.row (HP8.out.pt (i := 0) (by omega)) (by decide) hn7)
  have HP9 := Lib.hid (two_of (a := qa) (b := qb) (x := hA2) (y := hB1) hp8 rfl rfl rfl rfl)
  have HB8 := Lib.hid ((below_alloc HB7.out _).trans hs8.below)
  clear hp8 hs8 HP7 HB7 HR7 HP8 hn7
  go_wp2_with fail
  refine (parts_turn (i := 1) HP9.out (by omega) rfl).mono ?_
  rintro e w9 ⟨he, hp9, hs9⟩
  rw [show (two hA2 hB1 1).turn.2 = true from hx6] at he
  subst he
  have HM9 := Lib.hid (hs9.row (HP9.out.pt (i := 1) (by omega)) (by decide) HM8.out)
  have HP10 := Lib.hid (two_of (a := qa) (b := qb) (x := hA2) (y := hB2) hp9 rfl rfl rfl rfl)
  have HB9 := Lib.hid (HB8.out.trans hs9.below)
  clear hp9 hs9 HP9 HB8 HM8
  go_wp2_with fail
  refine (pt_send (HP10.out.pt (i := 1) (by omega)) 2).mono ?_
  rintro e w10 ⟨A10, c10, he, hr10, hb10⟩
  change e = Ending.returned (Value.tuple #[ltrV hN A10 c10, Value.bool (hB2.send 2).2]) at he
  rw [hx7] at he
  subst he
  have HP11 := Lib.hid (HP10.out.below hb10)
  have HB10 := Lib.hid (below_step HB9.out hb10)
  have HM10 := Lib.hid (blk_below HM9.out hb10)
  clear hr10 hb10 HP10 HB9 HM9
  unfold ltrV
  go_wp2_with fail
  have hn10 := blk_new w10 (Obj.cells #[.int .i64 hN.kind, .int .i64 hN.view, .int .i64 hN.normal, .int .i64 hN.len, .int .i64 hN.stays, .slice A10 hN.log.length c10, .int .i64 hN.num, .string hN.text] 33)
  have HP12 := Lib.hid (HP11.out.below (below_alloc (Below.refl _ _) (Obj.cells #[.int .i64 hN.kind, .int .i64 hN.view, .int .i64 hN.normal, .int .i64 hN.len, .int .i64 hN.stays, .slice A10 hN.log.length c10, .int .i64 hN.num, .string hN.text] 33)))
  refine (pt_saved (HP12.out.pt (i := 1) (by omega))).mono ?_
  rintro e w11 ⟨A11, c11, he, hr11, hb11⟩
  change e = Ending.returned (Value.agg #[.int .i64 hB2.view, .int .i64 hB2.normal, .slice A11 hB2.log.length c11]) at he
  rw [hy5, hy6, hy7] at he
  subst he
  have HP13 := Lib.hid (HP12.out.below hb11)
  have HB11 := Lib.hid (below_step (below_alloc HB10.out _) hb11)
  obtain ⟨x0, _, _, x3, _, _, _, _⟩ := cells8 (blk_below (blk_alloc HM10.out _) hb11)
  obtain ⟨y0, _, _, _, _, _, _, _⟩ := cells8 (blk_below hn10 hb11)
  rw [hy8] at x0
  rw [hy9] at x3
  rw [hy4] at y0
  have lx := blk_lt (blk_below (blk_alloc HM10.out _) hb11)
  have ly := blk_lt (blk_below hn10 hb11)
  clear hr11 hb11 HP11 HP12 HB10 HM10 hn10
  go_wp2_with fail
  have HP14 := Lib.hid (HP13.out.below (below_alloc (Below.refl _ _) (Obj.cells #[.int .i64 1, .int .i64 0, .slice A11 1 c11] 24)))
  refine (pt_stays (HP14.out.pt (i := 0) (by omega))).mono ?_
  rintro e w12 ⟨he, rfl⟩
  change e = Ending.returned (.int .i64 hA2.stays) at he
  rw [hy1] at he
  subst he
  go_wp2_with fail
  refine (pt_first (HP14.out.pt (i := 0) (by omega))).mono ?_
  rintro e w13 ⟨he, ⟨m13, rfl⟩⟩
  change e = Ending.returned (.bool hA2.firstB) at he
  rw [hy2] at he
  subst he
  go_wp2_with fail
  refine (pt_stays ((HP14.out.pt (i := 1) (by omega)).below (pw_below_drewN (Below.refl _ _) _))).mono ?_
  rintro e w14 ⟨he, rfl⟩
  change e = Ending.returned (.int .i64 hB2.stays) at he
  rw [hy3] at he
  subst he
  go_wp2_with fail
  go_ret
  exact ⟨rfl, pw_below_drewN (below_alloc HB11.out _) _⟩
end Go.Proofs.Ytndnjmgmdkkifaa.Vw1
