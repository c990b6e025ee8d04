/- The walk of a team's step. -/
import Derived.Test.YtndnjmgmdkkifaaVw30a
import Derived.Test.YtndnjmgmdkkifaaVw30b
import Derived.Test.YtndnjmgmdkkifaaVw30c
import Derived.Test.YtndnjmgmdkkifaaVw30d
import Derived.Test.YtndnjmgmdkkifaaVw30e
namespace Go.Proofs.Ytndnjmgmdkkifaa.Vw1
open Go Go.RowKit Go.Maps Go.Proofs Go.Proofs.Ytndnjmgmdkkifaa.New Go.Proofs.Ytndnjmgmdkkifaa.Vw Go.Proofs.Ytndnjmgmdkkifaa.Vw0 Go.Proofs.Ytndnjmgmdkkifaa.Q Go.Proofs.YtndnjmgmdkkifaaW.PrintWords Go.Proofs.YtndnjmgmdkkifaaW.PrintLast Go.Proofs.YtndnjmgmdkkifaaW.PrintMore
set_option linter.unusedVariables false
set_option linter.unusedSimpArgs false

theorem step_calls {B : Nat} {W : World} {tb n : Nat} {p : Nat → Nat} {r : Nat → V} {way : List St.Fly} (h : TM B W tb n p r (fun i => svOf (r i)) way) (x : S55) (hw0 : 0 ≤ x.f1) (hw1 : x.f1 < n) (hn : n ≤ 5) (hx4 : x.f4.size ≤ 140737488355328)
    (hok : ∀ i, i < n → OkV (r i)) (hme : ∀ i, i < n → (r i).me = i ∧ (r i).many = n) (hway : way.length ≤ 200 ∧ ∀ f ∈ way, f.fr < n ∧ f.to_ < n) :
    Calls Try.prog 30 #[.pointer (some ⟨tb, 0, none⟩), .agg #[.int .i64 x.f0, .int .i64 x.f1, .int .i64 x.f2, .int .i64 x.f3, .string x.f4, .bool x.f5]] W fun e w' => e = .returned (.bool true) ∧ (∃ p', TM B w' tb n p' (St.moveT (mvOf x) (r, way)).1 (fun i => svOf ((St.moveT (mvOf x) (r, way)).1 i)) (St.moveT (mvOf x) (r, way)).2) ∧ Below B W w' ∧ Rows9 W w' := by
  by_cases ha : x.f0 = 0 ∨ x.f0 = 1
  · exact step_calls_a h x hw0 hw1 hn hx4 ha hok hme hway
  by_cases hb : x.f0 = 2
  · exact step_calls_b h x hw0 hw1 hn hx4 hb hok hme hway
  by_cases hc : x.f0 < 0 ∨ 8 < x.f0
  · exact step_calls_c h x hw0 hw1 hn hx4 hc hok hme hway
  by_cases hd : x.f0 = 3 ∨ x.f0 = 4
  · exact step_calls_d h x hw0 hw1 hn hx4 hd hok hme hway
  exact step_calls_e h x hw0 hw1 hn hx4 (by omega) hok hme hway
end Go.Proofs.Ytndnjmgmdkkifaa.Vw1
