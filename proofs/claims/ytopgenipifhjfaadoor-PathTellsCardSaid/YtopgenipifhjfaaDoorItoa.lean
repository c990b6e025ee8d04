/- strconv.Itoa's contract in the printed form, under the condition that the package's table of powers of ten holds what its initialiser lays. -/
import Derived.Test.YtopgenipifhjfaaDoorShelf
import Derived.Test.YtopgenipifhjfaaDoorWWords
import Derived.Lib.AppendIntMem
import Derived.Lib.SmallJoins
import Derived.LaidMore
import Derived.Below
namespace Go.Proofs.YtopgenipifhjfaaDoor.Itoa
open Go Go.RowKit Go.Shelf Go.Proofs Go.Proofs.YtopgenipifhjfaaDoorW.PrintWords

def Tab (w : World) : Prop := Lib.TabIs Tryd.prog w "internal/strconv.uint64pow10" .u64 Lib.pow10Tab
theorem gTab : ∃ g, Tryd.prog.globalNamed "internal/strconv.uint64pow10" = some g := Option.isSome_iff_exists.1 (by kernel_rfl)
theorem tab_step {w w' : World} (h : Tab w) (hb : Below w.heap.size w w') : Tab w' := by
  obtain ⟨g, hg⟩ := gTab
  exact Go.Joins.tab_stays hg h hb (Nat.le_refl _)
def strconv_Itoa.f (a0 : Int) : Option ByteArray := if -9223372036854775808 ≤ a0 ∧ a0 ≤ 9223372036854775807 then some ⟨(Lib.itoa a0).toArray⟩ else none
theorem strconv_Itoa.calls (a0 : Int) (r : ByteArray) (w : World) (h : strconv_Itoa.f a0 = some r) (hT : Tab w) :
    Calls Tryd.prog 32 #[.int .i64 a0] w fun e w' => e = .returned (.string r) ∧ Below w.heap.size w w' := by
  unfold strconv_Itoa.f at h
  by_cases hb : -9223372036854775808 ≤ a0 ∧ a0 ≤ 9223372036854775807
  · rw [if_pos hb] at h
    cases h
    refine (Tryd.strconv_Itoa a0 hb.1 hb.2 w hT).mono ?_
    rintro e w' ⟨rfl, k, os, rfl⟩
    exact ⟨rfl, Lib.below_grow _ _ (Nat.le_refl _) _ _⟩
  · rw [if_neg hb] at h; cases h
end Go.Proofs.YtopgenipifhjfaaDoor.Itoa
-- GIVEN 32 Itoa strconv_Itoa ps=i64 rs=str rounds=0 making=1
