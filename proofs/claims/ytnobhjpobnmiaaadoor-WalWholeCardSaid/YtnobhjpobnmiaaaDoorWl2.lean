/- A log in memory: the walks of sign, head. -/
import Derived.Test.YtnobhjpobnmiaaaDoorWl1
import Derived.Deep.RegionHeld
import Derived.Deep.Cut
namespace Go.Proofs.YtnobhjpobnmiaaaDoor.Wl
open Go Go.RowKit Go.Maps Go.Proofs Go.Proofs.YtnobhjpobnmiaaaDoor.Sk Go.Proofs.YtnobhjpobnmiaaaDoorW.PrintWords Go.Proofs.YtnobhjpobnmiaaaDoorW.PrintLast Go.Proofs.YtnobhjpobnmiaaaDoorW.PrintMore
set_option linter.unusedVariables false
set_option linter.unusedSimpArgs false

def z16 : Obj := .cells #[.int .u8 0, .int .u8 0, .int .u8 0, .int .u8 0, .int .u8 0, .int .u8 0, .int .u8 0, .int .u8 0, .int .u8 0, .int .u8 0, .int .u8 0, .int .u8 0, .int .u8 0, .int .u8 0, .int .u8 0, .int .u8 0] 5
theorem make16 (w : World) : (Instr.makeSlice 22 (.int .i64 16) (.int .i64 16)).run Tryd.prog w = .ok (.slice (some ⟨w.heap.size, 0, none⟩) 16 16) (w.alloc z16) := by kernel_rfl
theorem row16 (w : World) : Row (w.alloc z16) w.heap.size 16 [0, 0, 0, 0, 0, 0, 0, 0, 0, 0, 0, 0, 0, 0, 0, 0] := ⟨[], blk_new w _, rfl⟩
section
variable {W W' w : World}
theorem but_below {w1 : World} {g : Nat} (h : But w w1 g) (hg : W.heap.size ≤ g) : Below W.heap.size w w1 := ⟨h.os, h.tape, h.output, Nat.le_of_eq h.size.symm, fun k hk => h.block k (by omega)⟩
theorem put_below (w : World) {g j : Nat} (u : Value) (hg : W.heap.size ≤ g) : Below W.heap.size w (w.setCell ⟨g, j, none⟩ u) := ⟨rfl, rfl, rfl, by rw [World.size_setCell]; exact Nat.le_refl _, fun k hk => Below.heap_setCell w ⟨g, j, none⟩ u k (by show k ≠ g; omega)⟩
set_option maxHeartbeats 1000000 in
set_option maxRecDepth 100000 in
theorem sign_calls (a : Nat) (ha : a ≤ 1) (W : World) : Calls Tryd.prog 26 #[.int .i64 (a : Int)] W fun e w' => ∃ g, e = .returned (.slice (some ⟨g, 0, none⟩) 16 16) ∧ W.heap.size ≤ g ∧ Row w' g 16 (sign a) ∧ Below W.heap.size W w' := by
  have hmk := make16
  have hr := row16 W
  have f0 := hr.frozen 0
  have f1 := hr.frozen 1
  have c0 := hr.cell 0 (by decide)
  have c1 := hr.cell 1 (by decide)
  change (W.alloc z16).cell? _ = some (.int .u8 0) at c0
  change (W.alloc z16).cell? _ = some (.int .u8 0) at c1
  have HR := Lib.hid ((hr.put 0 (by decide) 87).put 1 (by decide) (a : Int))
  have HB := Lib.hid ((below_alloc (Below.refl W.heap.size W) z16).trans ((put_below (W := W) (W.alloc z16) (g := W.heap.size) (j := 0) (.int .u8 87) (Nat.le_refl _)).trans (put_below (W := W) _ (g := W.heap.size) (j := 1) (.int .u8 (a : Int)) (Nat.le_refl _))))
  have qa : (a : Int) ≤ 1 := by omega
  clear hr ha
  go_enter Tryd.func26, Tryd.ntmps26
  go_wp2_with fail
  go_ret
  exact ⟨_, rfl, Nat.le_refl _, HR.out, HB.out⟩
set_option maxHeartbeats 2000000 in
set_option maxRecDepth 100000 in
theorem head_calls (k : Nat) (hk : k ≤ 1000000) {A : Option Addr} {c : Nat} (b : By) (h : CB W A b.length b) (hb : ∀ y ∈ b, 0 ≤ y ∧ y ≤ 255) (hl : b.length ≤ 1000000000) :
    Calls Tryd.prog 48 #[.int .i64 (k : Int), .slice A b.length c] W fun e w' => ∃ g, e = .returned (.slice (some ⟨g, 0, none⟩) 16 16) ∧ W.heap.size ≤ g ∧ Row w' g 16 (hd k b) ∧ Below W.heap.size W w' := by
  have hmk := make16
  have hr := row16 W
  have f0 := hr.frozen 0
  have c0 := hr.cell 0 (by decide)
  change (W.alloc z16).cell? _ = some (.int .u8 0) at c0
  have HR := Lib.hid (hr.put 0 (by decide) 82)
  have HB := Lib.hid ((below_alloc (Below.refl W.heap.size W) z16).trans (put_below (W := W) (W.alloc z16) (g := W.heap.size) (j := 0) (.int .u8 82) (Nat.le_refl _)))
  have HC := Lib.hid (fun w' (hw : Below W.heap.size W w') => Kd.C_below h hw)
  have HBR := Lib.hid hb
  obtain ⟨n, hn⟩ : ∃ n, b.length = n := ⟨_, rfl⟩
  have HN := Lib.hid hn
  have q1 : (k : Int) ≤ 1000000 := by omega
  have q0 : (k : Int) % 4294967296 = (k : Int) := by omega
  have q2 : (n : Int) % 4294967296 = (n : Int) := by omega
  rw [hn] at hl ⊢
  have q3 : (n : Int) ≤ 1000000000 := by omega
  clear hr h hb hn
  go_enter Tryd.func48, Tryd.ntmps48
  go_wp2_with fail
  refine (put_calls HR.out (by decide) 1 (by decide) 15 (k : Int) (by omega)).mono ?_
  rintro e w1 ⟨rfl, hr1, hb1⟩
  have HR1 := Lib.hid hr1
  have HB1 := Lib.hid (HB.out.trans (but_below (W := W) hb1 (Nat.le_refl _)))
  clear hr1 hb1
  go_wp2_with fail
  refine (put_calls HR1.out (show (16 : Nat) ≤ 65536 from by decide) 5 (show 5 + 4 ≤ (16 : Nat) from by decide) 11 (n : Int) (by omega)).mono ?_
  rintro e w2 ⟨rfl, hr1, hb1⟩
  have HR2 := Lib.hid hr1
  have HB2 := Lib.hid (HB1.out.trans (but_below (W := W) hb1 (Nat.le_refl _)))
  clear hr1 hb1
  have q5 : 0 ≤ (k : Int) % 65536 ∧ (k : Int) % 65536 ≤ 65535 := by omega
  have HSM := Lib.hid (fun w' (hw : Below W.heap.size W w') => (by have := sum_calls ((k : Int) % 65536) q5 A c b (HC.out w' hw) HBR.out; rw [HN.out] at this; rw [IntKind.wrap_u16]; exact this : Calls Tryd.prog 60 #[.int .u16 (IntKind.u16.wrap (k : Int)), .slice A n c] w' fun e w2 => e = .returned (.int .u32 (sum ((k : Int) % 65536) b)) ∧ w2 = w'))
  have HS0 := Lib.hid (sum_range ((k : Int) % 65536) q5.1 b)
  have HL1 := Lib.hid (show (splice (splice ([0, 0, 0, 0, 0, 0, 0, 0, 0, 0, 0, 0, 0, 0, 0, 0].set 0 82) 1 (four (k : Int))) 5 (four (n : Int))).length ≤ 65536 ∧ 9 + 4 ≤ (splice (splice ([0, 0, 0, 0, 0, 0, 0, 0, 0, 0, 0, 0, 0, 0, 0, 0].set 0 82) 1 (four (k : Int))) 5 (four (n : Int))).length from ⟨show (16 : Nat) ≤ 65536 from by decide, show 9 + 4 ≤ (16 : Nat) from by decide⟩)
  have HE := Lib.hid (show splice (splice (splice ([0, 0, 0, 0, 0, 0, 0, 0, 0, 0, 0, 0, 0, 0, 0, 0].set 0 82) 1 (four (k : Int))) 5 (four (n : Int))) 9 (four (sum ((k : Int) % 65536) b)) = hd k b by unfold hd; rw [HN.out]; rfl)
  clear q5 HR HB HR1 HB1
  go_upto_region 5 with (fail)
  have HR2d := Lib.hid (HR2.out.keep (W' := w2.drew) rfl)
  go_region_held (fun w' => Hid (Below W.heap.size W w'))
    (first | exact Lib.hid (HB2.out.trans ⟨rfl, rfl, rfl, Nat.le_refl _, fun _ _ => rfl⟩) | exact HB3 | assumption)
    (first | (go_at_call 60; go_split_ands; (with_reducible refine (HSM.out _ (Hid.out (by assumption))).mono ?_); rintro e w' ⟨rfl, rfl⟩) | (go_at_call 59; go_split_ands; (with_reducible refine (put_calls HR2d.out HL1.out.1 9 HL1.out.2 7 (sum ((k : Int) % 65536) b) HS0.out).mono ?_); rintro e w' ⟨rfl, hr3, hb3⟩; have HR3 := Lib.hid hr3; have HB3 := Lib.hid (Below.trans (Hid.out (by assumption)) (but_below (W := W) hb3 (Nat.le_refl _)))))
  all_goals (
    go_split_ands
    go_wp2_with fail
    go_ret
    exact ⟨_, rfl, Nat.le_refl _, by rw [← HE.out]; exact HR3.out, HB3.out⟩)
end
end Go.Proofs.YtnobhjpobnmiaaaDoor.Wl
