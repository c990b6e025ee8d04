-- Written by a program of this session (xprint) out of the translation; over contracts proved by hand.
import Derived.KernelRfl
import Derived.WalkLawsBesides
import Derived.Test.YtclomgbiomojjaaQx0
import Derived.Test.YtclomgbiomojjaaSq
import Derived.Test.YtclomgbiomojjaaLDir2
import Derived.Test.YtclomgbiomojjaaLFree
import Derived.Test.YtclomgbiomojjaaLDel
import Derived.Test.YtclomgbiomojjaaLRgt
import Derived.Test.YtclomgbiomojjaaLTake
import Derived.Test.YtclomgbiomojjaaSplit
namespace Go.Proofs.Ytclomgbiomojjaa.LDir2
end Go.Proofs.Ytclomgbiomojjaa.LDir2
namespace Go.Proofs.Ytclomgbiomojjaa.LFree
end Go.Proofs.Ytclomgbiomojjaa.LFree
namespace Go.Proofs.Ytclomgbiomojjaa.LHeld
end Go.Proofs.Ytclomgbiomojjaa.LHeld
namespace Go.Proofs.Ytclomgbiomojjaa.LRgt
end Go.Proofs.Ytclomgbiomojjaa.LRgt
namespace Go.Proofs.Ytclomgbiomojjaa.LTake
end Go.Proofs.Ytclomgbiomojjaa.LTake
namespace Go.Proofs.Ytclomgbiomojjaa.New
end Go.Proofs.Ytclomgbiomojjaa.New
namespace Go.Proofs.Ytclomgbiomojjaa.Split
end Go.Proofs.Ytclomgbiomojjaa.Split
namespace Go.Proofs.Ytclomgbiomojjaa.Q
open Go.Proofs.Ytclomgbiomojjaa.LDir2 Go.Proofs.Ytclomgbiomojjaa.LFree Go.Proofs.Ytclomgbiomojjaa.LHeld Go.Proofs.Ytclomgbiomojjaa.LRgt Go.Proofs.Ytclomgbiomojjaa.LTake Go.Proofs.Ytclomgbiomojjaa.New Go.Proofs.Ytclomgbiomojjaa.Split
set_option linter.unnecessarySimpa false
open Go.RowKit Go.Proofs.YtclomgbiomojjaaW.PrintWords Go.Proofs.YtclomgbiomojjaaW.PrintLast Go.Proofs.YtclomgbiomojjaaW.PrintMore
attribute [local go_sem] max2_int min2_int max_two min_two max_three min_three max_four min_four   -- for this text's walks alone
set_option linter.unusedVariables false
set_option linter.unusedSimpArgs false

/-! ### cantonlaw10_head: function 8 -/
def cantonlaw10_head.f  : Option (Bool) := (locks_Take.f ([] : List (S34)) 5 9 (([(⟨#[47, 97]⟩ : ByteArray), (⟨#[47, 98]⟩ : ByteArray)] : List ByteArray))).bind fun bt110 => ((locks_Take.f bt110.1 3 2 (([(⟨#[47, 98]⟩ : ByteArray), (⟨#[47, 99]⟩ : ByteArray)] : List ByteArray))).bind fun bt120 => ((locks_Take.f bt110.1 7 12 (([(⟨#[47, 98]⟩ : ByteArray)] : List ByteArray))).bind fun bt130 => ((locks_Free.f bt110.1 5).bind fun t137 => ((locks_Held.f bt110.1 (⟨#[47, 98]⟩ : ByteArray)).bind fun bt140 => ((locks_Dirs.f (([(⟨0, (⟨0, (⟨#[47, 122]⟩ : ByteArray), (⟨#[]⟩ : ByteArray), (⟨#[]⟩ : ByteArray), 0, 0, false⟩ : S42)⟩ : S44), (⟨0, (⟨0, (⟨#[47]⟩ : ByteArray), (⟨#[]⟩ : ByteArray), (⟨#[]⟩ : ByteArray), 0, 0, false⟩ : S42)⟩ : S44), (⟨0, (⟨0, (⟨#[47, 122]⟩ : ByteArray), (⟨#[]⟩ : ByteArray), (⟨#[]⟩ : ByteArray), 0, 0, false⟩ : S42)⟩ : S44)] : List (S44)))).bind fun t145 => (if bt110.2.2 = true then (if (bt110.1.length : Int) = 2 then (if bt120.2.2 = true then (some false) else (if (bt120.2.1.length : Int) = 1 then (if 0 < (bt120.2.1.length : Int) then (if (rd bt120.2.1 0) = 5 then (if bt130.2.2 = true then (some false) else (if (bt130.2.1.length : Int) = 0 then (if (t137.length : Int) = 0 then (if bt140.1 = 5 then (if bt140.2 = true then (if (t145.length : Int) = 2 then (if 0 < (t145.length : Int) then (if (rdOf ByteArray.empty t145 0).toList = ([47] : List UInt8) then ((locks_Right.f bt110.1).bind fun t150 => (some t150)) else (some false)) else (none)) else (some false)) else (some false)) else (some false)) else (some false)) else (some false))) else (some false)) else (none)) else (some false))) else (some false)) else (some false)))))))
set_option maxHeartbeats 8000000 in
set_option maxRecDepth 100000 in
theorem cantonlaw10_head.calls_true  (r : Bool) (w : World) (hr : r = true) (h : cantonlaw10_head.f  = some r) :
  Calls Try.prog 8 #[] w fun e w' => e = .returned (.bool r) ∧ Below w.heap.size w w' := by
 have hu42 := Try.underlying42
 have hu44 := Try.underlying44
 have HB := Aside0.mk (Below.refl w.heap.size w)
 have H : ((locks_Take.f ([] : List (S34)) 5 9 (([(⟨#[47, 97]⟩ : ByteArray), (⟨#[47, 98]⟩ : ByteArray)] : List ByteArray))).bind fun bt110 => ((locks_Take.f bt110.1 3 2 (([(⟨#[47, 98]⟩ : ByteArray), (⟨#[47, 99]⟩ : ByteArray)] : List ByteArray))).bind fun bt120 => ((locks_Take.f bt110.1 7 12 (([(⟨#[47, 98]⟩ : ByteArray)] : List ByteArray))).bind fun bt130 => ((locks_Free.f bt110.1 5).bind fun t137 => ((locks_Held.f bt110.1 (⟨#[47, 98]⟩ : ByteArray)).bind fun bt140 => ((locks_Dirs.f (([(⟨0, (⟨0, (⟨#[47, 122]⟩ : ByteArray), (⟨#[]⟩ : ByteArray), (⟨#[]⟩ : ByteArray), 0, 0, false⟩ : S42)⟩ : S44), (⟨0, (⟨0, (⟨#[47]⟩ : ByteArray), (⟨#[]⟩ : ByteArray), (⟨#[]⟩ : ByteArray), 0, 0, false⟩ : S42)⟩ : S44), (⟨0, (⟨0, (⟨#[47, 122]⟩ : ByteArray), (⟨#[]⟩ : ByteArray), (⟨#[]⟩ : ByteArray), 0, 0, false⟩ : S42)⟩ : S44)] : List (S44)))).bind fun t145 => (if bt110.2.2 = true then (if (bt110.1.length : Int) = 2 then (if bt120.2.2 = true then (some false) else (if (bt120.2.1.length : Int) = 1 then (if 0 < (bt120.2.1.length : Int) then (if (rd bt120.2.1 0) = 5 then (if bt130.2.2 = true then (some false) else (if (bt130.2.1.length : Int) = 0 then (if (t137.length : Int) = 0 then (if bt140.1 = 5 then (if bt140.2 = true then (if (t145.length : Int) = 2 then (if 0 < (t145.length : Int) then (if (rdOf ByteArray.empty t145 0).toList = ([47] : List UInt8) then ((locks_Right.f bt110.1).bind fun t150 => (some t150)) else (some false)) else (none)) else (some false)) else (some false)) else (some false)) else (some false)) else (some false))) else (some false)) else (none)) else (some false))) else (some false)) else (some false)))))))) = some r := h
 clear h
 obtain ⟨y107, hy107⟩ : ∃ y_ : List ByteArray, y_ = (([(⟨#[47, 97]⟩ : ByteArray), (⟨#[47, 98]⟩ : ByteArray)] : List ByteArray)) := ⟨_, rfl⟩
 replace H : ((locks_Take.f ([] : List (S34)) 5 9 y107).bind fun bt110 => ((locks_Take.f bt110.1 3 2 (([(⟨#[47, 98]⟩ : ByteArray), (⟨#[47, 99]⟩ : ByteArray)] : List ByteArray))).bind fun bt120 => ((locks_Take.f bt110.1 7 12 (([(⟨#[47, 98]⟩ : ByteArray)] : List ByteArray))).bind fun bt130 => ((locks_Free.f bt110.1 5).bind fun t137 => ((locks_Held.f bt110.1 (⟨#[47, 98]⟩ : ByteArray)).bind fun bt140 => ((locks_Dirs.f (([(⟨0, (⟨0, (⟨#[47, 122]⟩ : ByteArray), (⟨#[]⟩ : ByteArray), (⟨#[]⟩ : ByteArray), 0, 0, false⟩ : S42)⟩ : S44), (⟨0, (⟨0, (⟨#[47]⟩ : ByteArray), (⟨#[]⟩ : ByteArray), (⟨#[]⟩ : ByteArray), 0, 0, false⟩ : S42)⟩ : S44), (⟨0, (⟨0, (⟨#[47, 122]⟩ : ByteArray), (⟨#[]⟩ : ByteArray), (⟨#[]⟩ : ByteArray), 0, 0, false⟩ : S42)⟩ : S44)] : List (S44)))).bind fun t145 => (if bt110.2.2 = true then (if (bt110.1.length : Int) = 2 then (if bt120.2.2 = true then (some false) else (if (bt120.2.1.length : Int) = 1 then (if 0 < (bt120.2.1.length : Int) then (if (rd bt120.2.1 0) = 5 then (if bt130.2.2 = true then (some false) else (if (bt130.2.1.length : Int) = 0 then (if (t137.length : Int) = 0 then (if bt140.1 = 5 then (if bt140.2 = true then (if (t145.length : Int) = 2 then (if 0 < (t145.length : Int) then (if (rdOf ByteArray.empty t145 0).toList = ([47] : List UInt8) then ((locks_Right.f bt110.1).bind fun t150 => (some t150)) else (some false)) else (none)) else (some false)) else (some false)) else (some false)) else (some false)) else (some false))) else (some false)) else (none)) else (some false))) else (some false)) else (some false)))))))) = some r := by first | (rw [hy107]; with_reducible exact H) | (have H2_ := (Option.bind_some _ _).symm.trans H; rw [hy107]; with_reducible exact H2_) | (have H2_ := (Option.bind_some _ _).symm.trans H; with_reducible exact H2_) | with_reducible exact H | (rw [hy107]; exact H) | exact H
 have Ny107 := Aside0.mk hy107
 clear hy107
 replace H := Option.bind_eq_some_iff.mp H
 obtain ⟨⟨t110, t113, t116⟩, A10, H⟩ := H
 replace H : ((locks_Take.f t110 3 2 (([(⟨#[47, 98]⟩ : ByteArray), (⟨#[47, 99]⟩ : ByteArray)] : List ByteArray))).bind fun bt120 => ((locks_Take.f t110 7 12 (([(⟨#[47, 98]⟩ : ByteArray)] : List ByteArray))).bind fun bt130 => ((locks_Free.f t110 5).bind fun t137 => ((locks_Held.f t110 (⟨#[47, 98]⟩ : ByteArray)).bind fun bt140 => ((locks_Dirs.f (([(⟨0, (⟨0, (⟨#[47, 122]⟩ : ByteArray), (⟨#[]⟩ : ByteArray), (⟨#[]⟩ : ByteArray), 0, 0, false⟩ : S42)⟩ : S44), (⟨0, (⟨0, (⟨#[47]⟩ : ByteArray), (⟨#[]⟩ : ByteArray), (⟨#[]⟩ : ByteArray), 0, 0, false⟩ : S42)⟩ : S44), (⟨0, (⟨0, (⟨#[47, 122]⟩ : ByteArray), (⟨#[]⟩ : ByteArray), (⟨#[]⟩ : ByteArray), 0, 0, false⟩ : S42)⟩ : S44)] : List (S44)))).bind fun t145 => (if t116 = true then (if (t110.length : Int) = 2 then (if bt120.2.2 = true then (some false) else (if (bt120.2.1.length : Int) = 1 then (if 0 < (bt120.2.1.length : Int) then (if (rd bt120.2.1 0) = 5 then (if bt130.2.2 = true then (some false) else (if (bt130.2.1.length : Int) = 0 then (if (t137.length : Int) = 0 then (if bt140.1 = 5 then (if bt140.2 = true then (if (t145.length : Int) = 2 then (if 0 < (t145.length : Int) then (if (rdOf ByteArray.empty t145 0).toList = ([47] : List UInt8) then ((locks_Right.f t110).bind fun t150 => (some t150)) else (some false)) else (none)) else (some false)) else (some false)) else (some false)) else (some false)) else (some false))) else (some false)) else (none)) else (some false))) else (some false)) else (some false))))))) = some r := H
 have A1 := Aside0.mk A10
 clear A10
 obtain ⟨y117, hy117⟩ : ∃ y_ : List ByteArray, y_ = (([(⟨#[47, 98]⟩ : ByteArray), (⟨#[47, 99]⟩ : ByteArray)] : List ByteArray)) := ⟨_, rfl⟩
 replace H : ((locks_Take.f t110 3 2 y117).bind fun bt120 => ((locks_Take.f t110 7 12 (([(⟨#[47, 98]⟩ : ByteArray)] : List ByteArray))).bind fun bt130 => ((locks_Free.f t110 5).bind fun t137 => ((locks_Held.f t110 (⟨#[47, 98]⟩ : ByteArray)).bind fun bt140 => ((locks_Dirs.f (([(⟨0, (⟨0, (⟨#[47, 122]⟩ : ByteArray), (⟨#[]⟩ : ByteArray), (⟨#[]⟩ : ByteArray), 0, 0, false⟩ : S42)⟩ : S44), (⟨0, (⟨0, (⟨#[47]⟩ : ByteArray), (⟨#[]⟩ : ByteArray), (⟨#[]⟩ : ByteArray), 0, 0, false⟩ : S42)⟩ : S44), (⟨0, (⟨0, (⟨#[47, 122]⟩ : ByteArray), (⟨#[]⟩ : ByteArray), (⟨#[]⟩ : ByteArray), 0, 0, false⟩ : S42)⟩ : S44)] : List (S44)))).bind fun t145 => (if t116 = true then (if (t110.length : Int) = 2 then (if bt120.2.2 = true then (some false) else (if (bt120.2.1.length : Int) = 1 then (if 0 < (bt120.2.1.length : Int) then (if (rd bt120.2.1 0) = 5 then (if bt130.2.2 = true then (some false) else (if (bt130.2.1.length : Int) = 0 then (if (t137.length : Int) = 0 then (if bt140.1 = 5 then (if bt140.2 = true then (if (t145.length : Int) = 2 then (if 0 < (t145.length : Int) then (if (rdOf ByteArray.empty t145 0).toList = ([47] : List UInt8) then ((locks_Right.f t110).bind fun t150 => (some t150)) else (some false)) else (none)) else (some false)) else (some false)) else (some false)) else (some false)) else (some false))) else (some false)) else (none)) else (some false))) else (some false)) else (some false))))))) = some r := by first | (rw [hy117]; with_reducible exact H) | (have H2_ := (Option.bind_some _ _).symm.trans H; rw [hy117]; with_reducible exact H2_) | (have H2_ := (Option.bind_some _ _).symm.trans H; with_reducible exact H2_) | with_reducible exact H | (rw [hy117]; exact H) | exact H
 have Ny117 := Aside0.mk hy117
 clear hy117
 replace H := Option.bind_eq_some_iff.mp H
 obtain ⟨⟨t120, t123, t126⟩, A20, H⟩ := H
 replace H : ((locks_Take.f t110 7 12 (([(⟨#[47, 98]⟩ : ByteArray)] : List ByteArray))).bind fun bt130 => ((locks_Free.f t110 5).bind fun t137 => ((locks_Held.f t110 (⟨#[47, 98]⟩ : ByteArray)).bind fun bt140 => ((locks_Dirs.f (([(⟨0, (⟨0, (⟨#[47, 122]⟩ : ByteArray), (⟨#[]⟩ : ByteArray), (⟨#[]⟩ : ByteArray), 0, 0, false⟩ : S42)⟩ : S44), (⟨0, (⟨0, (⟨#[47]⟩ : ByteArray), (⟨#[]⟩ : ByteArray), (⟨#[]⟩ : ByteArray), 0, 0, false⟩ : S42)⟩ : S44), (⟨0, (⟨0, (⟨#[47, 122]⟩ : ByteArray), (⟨#[]⟩ : ByteArray), (⟨#[]⟩ : ByteArray), 0, 0, false⟩ : S42)⟩ : S44)] : List (S44)))).bind fun t145 => (if t116 = true then (if (t110.length : Int) = 2 then (if t126 = true then (some false) else (if (t123.length : Int) = 1 then (if 0 < (t123.length : Int) then (if (rd t123 0) = 5 then (if bt130.2.2 = true then (some false) else (if (bt130.2.1.length : Int) = 0 then (if (t137.length : Int) = 0 then (if bt140.1 = 5 then (if bt140.2 = true then (if (t145.length : Int) = 2 then (if 0 < (t145.length : Int) then (if (rdOf ByteArray.empty t145 0).toList = ([47] : List UInt8) then ((locks_Right.f t110).bind fun t150 => (some t150)) else (some false)) else (none)) else (some false)) else (some false)) else (some false)) else (some false)) else (some false))) else (some false)) else (none)) else (some false))) else (some false)) else (some false)))))) = some r := H
 have A2 := Aside0.mk A20
 clear A20
 obtain ⟨y127, hy127⟩ : ∃ y_ : List ByteArray, y_ = (([(⟨#[47, 98]⟩ : ByteArray)] : List ByteArray)) := ⟨_, rfl⟩
 replace H : ((locks_Take.f t110 7 12 y127).bind fun bt130 => ((locks_Free.f t110 5).bind fun t137 => ((locks_Held.f t110 (⟨#[47, 98]⟩ : ByteArray)).bind fun bt140 => ((locks_Dirs.f (([(⟨0, (⟨0, (⟨#[47, 122]⟩ : ByteArray), (⟨#[]⟩ : ByteArray), (⟨#[]⟩ : ByteArray), 0, 0, false⟩ : S42)⟩ : S44), (⟨0, (⟨0, (⟨#[47]⟩ : ByteArray), (⟨#[]⟩ : ByteArray), (⟨#[]⟩ : ByteArray), 0, 0, false⟩ : S42)⟩ : S44), (⟨0, (⟨0, (⟨#[47, 122]⟩ : ByteArray), (⟨#[]⟩ : ByteArray), (⟨#[]⟩ : ByteArray), 0, 0, false⟩ : S42)⟩ : S44)] : List (S44)))).bind fun t145 => (if t116 = true then (if (t110.length : Int) = 2 then (if t126 = true then (some false) else (if (t123.length : Int) = 1 then (if 0 < (t123.length : Int) then (if (rd t123 0) = 5 then (if bt130.2.2 = true then (some false) else (if (bt130.2.1.length : Int) = 0 then (if (t137.length : Int) = 0 then (if bt140.1 = 5 then (if bt140.2 = true then (if (t145.length : Int) = 2 then (if 0 < (t145.length : Int) then (if (rdOf ByteArray.empty t145 0).toList = ([47] : List UInt8) then ((locks_Right.f t110).bind fun t150 => (some t150)) else (some false)) else (none)) else (some false)) else (some false)) else (some false)) else (some false)) else (some false))) else (some false)) else (none)) else (some false))) else (some false)) else (some false)))))) = some r := by first | (rw [hy127]; with_reducible exact H) | (have H2_ := (Option.bind_some _ _).symm.trans H; rw [hy127]; with_reducible exact H2_) | (have H2_ := (Option.bind_some _ _).symm.trans H; with_reducible exact H2_) | with_reducible exact H | (rw [hy127]; exact H) | exact H
 have Ny127 := Aside0.mk hy127
 clear hy127
 replace H := Option.bind_eq_some_iff.mp H
 obtain ⟨⟨t130, t133, t136⟩, A30, H⟩ := H
 replace H : ((locks_Free.f t110 5).bind fun t137 => ((locks_Held.f t110 (⟨#[47, 98]⟩ : ByteArray)).bind fun bt140 => ((locks_Dirs.f (([(⟨0, (⟨0, (⟨#[47, 122]⟩ : ByteArray), (⟨#[]⟩ : ByteArray), (⟨#[]⟩ : ByteArray), 0, 0, false⟩ : S42)⟩ : S44), (⟨0, (⟨0, (⟨#[47]⟩ : ByteArray), (⟨#[]⟩ : ByteArray), (⟨#[]⟩ : ByteArray), 0, 0, false⟩ : S42)⟩ : S44), (⟨0, (⟨0, (⟨#[47, 122]⟩ : ByteArray), (⟨#[]⟩ : ByteArray), (⟨#[]⟩ : ByteArray), 0, 0, false⟩ : S42)⟩ : S44)] : List (S44)))).bind fun t145 => (if t116 = true then (if (t110.length : Int) = 2 then (if t126 = true then (some false) else (if (t123.length : Int) = 1 then (if 0 < (t123.length : Int) then (if (rd t123 0) = 5 then (if t136 = true then (some false) else (if (t133.length : Int) = 0 then (if (t137.length : Int) = 0 then (if bt140.1 = 5 then (if bt140.2 = true then (if (t145.length : Int) = 2 then (if 0 < (t145.length : Int) then (if (rdOf ByteArray.empty t145 0).toList = ([47] : List UInt8) then ((locks_Right.f t110).bind fun t150 => (some t150)) else (some false)) else (none)) else (some false)) else (some false)) else (some false)) else (some false)) else (some false))) else (some false)) else (none)) else (some false))) else (some false)) else (some false))))) = some r := H
 have A3 := Aside0.mk A30
 clear A30
 replace H := Option.bind_eq_some_iff.mp H
 obtain ⟨t137, A40, H⟩ := H
 replace H : ((locks_Held.f t110 (⟨#[47, 98]⟩ : ByteArray)).bind fun bt140 => ((locks_Dirs.f (([(⟨0, (⟨0, (⟨#[47, 122]⟩ : ByteArray), (⟨#[]⟩ : ByteArray), (⟨#[]⟩ : ByteArray), 0, 0, false⟩ : S42)⟩ : S44), (⟨0, (⟨0, (⟨#[47]⟩ : ByteArray), (⟨#[]⟩ : ByteArray), (⟨#[]⟩ : ByteArray), 0, 0, false⟩ : S42)⟩ : S44), (⟨0, (⟨0, (⟨#[47, 122]⟩ : ByteArray), (⟨#[]⟩ : ByteArray), (⟨#[]⟩ : ByteArray), 0, 0, false⟩ : S42)⟩ : S44)] : List (S44)))).bind fun t145 => (if t116 = true then (if (t110.length : Int) = 2 then (if t126 = true then (some false) else (if (t123.length : Int) = 1 then (if 0 < (t123.length : Int) then (if (rd t123 0) = 5 then (if t136 = true then (some false) else (if (t133.length : Int) = 0 then (if (t137.length : Int) = 0 then (if bt140.1 = 5 then (if bt140.2 = true then (if (t145.length : Int) = 2 then (if 0 < (t145.length : Int) then (if (rdOf ByteArray.empty t145 0).toList = ([47] : List UInt8) then ((locks_Right.f t110).bind fun t150 => (some t150)) else (some false)) else (none)) else (some false)) else (some false)) else (some false)) else (some false)) else (some false))) else (some false)) else (none)) else (some false))) else (some false)) else (some false)))) = some r := H
 have A4 := Aside0.mk A40
 clear A40
 replace H := Option.bind_eq_some_iff.mp H
 obtain ⟨⟨t140, t141⟩, A50, H⟩ := H
 replace H : ((locks_Dirs.f (([(⟨0, (⟨0, (⟨#[47, 122]⟩ : ByteArray), (⟨#[]⟩ : ByteArray), (⟨#[]⟩ : ByteArray), 0, 0, false⟩ : S42)⟩ : S44), (⟨0, (⟨0, (⟨#[47]⟩ : ByteArray), (⟨#[]⟩ : ByteArray), (⟨#[]⟩ : ByteArray), 0, 0, false⟩ : S42)⟩ : S44), (⟨0, (⟨0, (⟨#[47, 122]⟩ : ByteArray), (⟨#[]⟩ : ByteArray), (⟨#[]⟩ : ByteArray), 0, 0, false⟩ : S42)⟩ : S44)] : List (S44)))).bind fun t145 => (if t116 = true then (if (t110.length : Int) = 2 then (if t126 = true then (some false) else (if (t123.length : Int) = 1 then (if 0 < (t123.length : Int) then (if (rd t123 0) = 5 then (if t136 = true then (some false) else (if (t133.length : Int) = 0 then (if (t137.length : Int) = 0 then (if t140 = 5 then (if t141 = true then (if (t145.length : Int) = 2 then (if 0 < (t145.length : Int) then (if (rdOf ByteArray.empty t145 0).toList = ([47] : List UInt8) then ((locks_Right.f t110).bind fun t150 => (some t150)) else (some false)) else (none)) else (some false)) else (some false)) else (some false)) else (some false)) else (some false))) else (some false)) else (none)) else (some false))) else (some false)) else (some false))) = some r := H
 have A5 := Aside0.mk A50
 clear A50
 obtain ⟨y142, hy142⟩ : ∃ y_ : List (S44), y_ = (([(⟨0, (⟨0, (⟨#[47, 122]⟩ : ByteArray), (⟨#[]⟩ : ByteArray), (⟨#[]⟩ : ByteArray), 0, 0, false⟩ : S42)⟩ : S44), (⟨0, (⟨0, (⟨#[47]⟩ : ByteArray), (⟨#[]⟩ : ByteArray), (⟨#[]⟩ : ByteArray), 0, 0, false⟩ : S42)⟩ : S44), (⟨0, (⟨0, (⟨#[47, 122]⟩ : ByteArray), (⟨#[]⟩ : ByteArray), (⟨#[]⟩ : ByteArray), 0, 0, false⟩ : S42)⟩ : S44)] : List (S44))) := ⟨_, rfl⟩
 replace H : ((locks_Dirs.f y142).bind fun t145 => (if t116 = true then (if (t110.length : Int) = 2 then (if t126 = true then (some false) else (if (t123.length : Int) = 1 then (if 0 < (t123.length : Int) then (if (rd t123 0) = 5 then (if t136 = true then (some false) else (if (t133.length : Int) = 0 then (if (t137.length : Int) = 0 then (if t140 = 5 then (if t141 = true then (if (t145.length : Int) = 2 then (if 0 < (t145.length : Int) then (if (rdOf ByteArray.empty t145 0).toList = ([47] : List UInt8) then ((locks_Right.f t110).bind fun t150 => (some t150)) else (some false)) else (none)) else (some false)) else (some false)) else (some false)) else (some false)) else (some false))) else (some false)) else (none)) else (some false))) else (some false)) else (some false))) = some r := by first | (rw [hy142]; with_reducible exact H) | (have H2_ := (Option.bind_some _ _).symm.trans H; rw [hy142]; with_reducible exact H2_) | (have H2_ := (Option.bind_some _ _).symm.trans H; with_reducible exact H2_) | with_reducible exact H | (rw [hy142]; exact H) | exact H
 have Ny142 := Aside0.mk hy142
 clear hy142
 replace H := Option.bind_eq_some_iff.mp H
 obtain ⟨t145, A60, H⟩ := H
 replace H : (if t116 = true then (if (t110.length : Int) = 2 then (if t126 = true then (some false) else (if (t123.length : Int) = 1 then (if 0 < (t123.length : Int) then (if (rd t123 0) = 5 then (if t136 = true then (some false) else (if (t133.length : Int) = 0 then (if (t137.length : Int) = 0 then (if t140 = 5 then (if t141 = true then (if (t145.length : Int) = 2 then (if 0 < (t145.length : Int) then (if (rdOf ByteArray.empty t145 0).toList = ([47] : List UInt8) then ((locks_Right.f t110).bind fun t150 => (some t150)) else (some false)) else (none)) else (some false)) else (some false)) else (some false)) else (some false)) else (some false))) else (some false)) else (none)) else (some false))) else (some false)) else (some false)) = some r := H
 have A6 := Aside0.mk A60
 clear A60
 by_cases c7 : t116 = true
 ·subst c7
  have H1 : (if (t110.length : Int) = 2 then (if t126 = true then (some false) else (if (t123.length : Int) = 1 then (if 0 < (t123.length : Int) then (if (rd t123 0) = 5 then (if t136 = true then (some false) else (if (t133.length : Int) = 0 then (if (t137.length : Int) = 0 then (if t140 = 5 then (if t141 = true then (if (t145.length : Int) = 2 then (if 0 < (t145.length : Int) then (if (rdOf ByteArray.empty t145 0).toList = ([47] : List UInt8) then ((locks_Right.f t110).bind fun t150 => (some t150)) else (some false)) else (none)) else (some false)) else (some false)) else (some false)) else (some false)) else (some false))) else (some false)) else (none)) else (some false))) else (some false)) = some r := by rw [if_pos rfl] at H; exact H
  clear H
  have H := H1
  clear H1
  by_cases c8 : (t110.length : Int) = 2
  ·rw [if_pos c8] at H
   have c8b0 : ((t110.length : Int) == 2) = true := beq_iff_eq.mpr c8
   have c8b1 : ((t110.length : Int) != 2) = false := bne_eq_false_iff_eq.mpr c8
   clear c8
   by_cases c9 : t126 = true
   ·subst c9
    have H1 : (some false) = some r := by rw [if_pos rfl] at H; exact H
    clear H
    have H := H1
    clear H1
    exact absurd ((Option.some.inj H).trans hr) (by decide)
   ·replace c9 := Bool.eq_false_iff.mpr c9
    subst c9
    have H1 : (if (t123.length : Int) = 1 then (if 0 < (t123.length : Int) then (if (rd t123 0) = 5 then (if t136 = true then (some false) else (if (t133.length : Int) = 0 then (if (t137.length : Int) = 0 then (if t140 = 5 then (if t141 = true then (if (t145.length : Int) = 2 then (if 0 < (t145.length : Int) then (if (rdOf ByteArray.empty t145 0).toList = ([47] : List UInt8) then ((locks_Right.f t110).bind fun t150 => (some t150)) else (some false)) else (none)) else (some false)) else (some false)) else (some false)) else (some false)) else (some false))) else (some false)) else (none)) else (some false)) = some r := by rw [if_neg (show ¬ (false = true) by decide)] at H; exact H
    clear H
    have H := H1
    clear H1
    by_cases c29 : (t123.length : Int) = 1
    ·rw [if_pos c29] at H
     have c29b0 : ((t123.length : Int) == 1) = true := beq_iff_eq.mpr c29
     have c29b1 : ((t123.length : Int) != 1) = false := bne_eq_false_iff_eq.mpr c29
     clear c29
     by_cases c30 : 0 < (t123.length : Int)
     ·rw [if_pos c30] at H
      have c30b0 : decide (0 < (t123.length : Int)) = true := decide_eq_true c30
      have c30b1 : decide (0 < t123.length) = true := decide_eq_true (by omega)
      clear c30
      by_cases c31 : (rd t123 0) = 5
      ·rw [if_pos c31] at H
       have c31b0 : ((rd t123 0) == 5) = true := beq_iff_eq.mpr c31
       have c31b1 : ((rd t123 0) != 5) = false := bne_eq_false_iff_eq.mpr c31
       clear c31
       by_cases c32 : t136 = true
       ·subst c32
        have H1 : (some false) = some r := by rw [if_pos rfl] at H; exact H
        clear H
        have H := H1
        clear H1
        exact absurd ((Option.some.inj H).trans hr) (by decide)
       ·replace c32 := Bool.eq_false_iff.mpr c32
        subst c32
        have H1 : (if (t133.length : Int) = 0 then (if (t137.length : Int) = 0 then (if t140 = 5 then (if t141 = true then (if (t145.length : Int) = 2 then (if 0 < (t145.length : Int) then (if (rdOf ByteArray.empty t145 0).toList = ([47] : List UInt8) then ((locks_Right.f t110).bind fun t150 => (some t150)) else (some false)) else (none)) else (some false)) else (some false)) else (some false)) else (some false)) else (some false)) = some r := by rw [if_neg (show ¬ (false = true) by decide)] at H; exact H
        clear H
        have H := H1
        clear H1
        by_cases c53 : (t133.length : Int) = 0
        ·rw [if_pos c53] at H
         have c53b0 : ((t133.length : Int) == 0) = true := beq_iff_eq.mpr c53
         have c53b1 : ((t133.length : Int) != 0) = false := bne_eq_false_iff_eq.mpr c53
         clear c53
         by_cases c54 : (t137.length : Int) = 0
         ·rw [if_pos c54] at H
          have c54b0 : ((t137.length : Int) == 0) = true := beq_iff_eq.mpr c54
          have c54b1 : ((t137.length : Int) != 0) = false := bne_eq_false_iff_eq.mpr c54
          clear c54
          by_cases c55 : t140 = 5
          ·rw [if_pos c55] at H
           have c55b0 : (t140 == 5) = true := beq_iff_eq.mpr c55
           have c55b1 : (t140 != 5) = false := bne_eq_false_iff_eq.mpr c55
           clear c55
           by_cases c56 : t141 = true
           ·subst c56
            have H1 : (if (t145.length : Int) = 2 then (if 0 < (t145.length : Int) then (if (rdOf ByteArray.empty t145 0).toList = ([47] : List UInt8) then ((locks_Right.f t110).bind fun t150 => (some t150)) else (some false)) else (none)) else (some false)) = some r := by rw [if_pos rfl] at H; exact H
            clear H
            have H := H1
            clear H1
            by_cases c57 : (t145.length : Int) = 2
            ·rw [if_pos c57] at H
             have c57b0 : ((t145.length : Int) == 2) = true := beq_iff_eq.mpr c57
             have c57b1 : ((t145.length : Int) != 2) = false := bne_eq_false_iff_eq.mpr c57
             clear c57
             by_cases c58 : 0 < (t145.length : Int)
             ·rw [if_pos c58] at H
              have c58b0 : decide (0 < (t145.length : Int)) = true := decide_eq_true c58
              have c58b1 : decide (0 < t145.length) = true := decide_eq_true (by omega)
              clear c58
              by_cases c59 : (rdOf ByteArray.empty t145 0).toList = ([47] : List UInt8)
              ·rw [if_pos c59] at H
               have c59b0 : ((rdOf ByteArray.empty t145 0).toList == ([47] : List UInt8)) = true := beq_iff_eq.mpr c59
               have c59b1 : ((rdOf ByteArray.empty t145 0).toList != ([47] : List UInt8)) = false := bne_eq_false_iff_eq.mpr c59
               clear c59
               replace H := Option.bind_eq_some_iff.mp H
               obtain ⟨t150, A600, H⟩ := H
               replace H : (some t150) = some r := H
               have A60 := Aside0.mk A600
               clear A600
               obtain rfl := Option.some.inj H
               go_enter Try.func8, Try.ntmps8
               go_wp2_with (first | ((with_reducible refine gate_dst (N := 15) rfl ?_); (try (refine gate_guard (by rfl) ?_; dsimp only)); refine Kd.R_lit Kd.string _ 9 ?hg (N := 15) ?hd (xs := ([(⟨#[47, 97]⟩ : ByteArray), (⟨#[47, 98]⟩ : ByteArray)] : List ByteArray)) (inner := [.string (⟨#[47, 97]⟩ : ByteArray), .string (⟨#[47, 98]⟩ : ByteArray)]) (ok := fun _ => True) (okp := fun _ => True) ?hr ?hp (fun _ hk => hk) trivial (Below.refl _ _) (Nat.le_refl _) (by simp) ?_; (case hd => rfl); (case hg => rfl); (case hr => first | (go_simp; done) | (go_simp; rfl)); (case hp => exact (Reps.one (show Kd.M Kd.string _ _ _ (⟨#[47, 97]⟩ : ByteArray) [.string (⟨#[47, 97]⟩ : ByteArray)] from rfl) (Reps.one (show Kd.M Kd.string _ _ _ (⟨#[47, 98]⟩ : ByteArray) [.string (⟨#[47, 98]⟩ : ByteArray)] from rfl) (Reps.none _ _)))); intro v108 w61 ho62 hb hg_ hnew_; clear hg_ hnew_; (first | rw [← Ny107.out] at ho62 | (simp only [Int.reduceToNat] at ho62; rw [← Ny107.out] at ho62)); have n0_ := Aside0.mk (Kd.R_lower ho62 (below_size (kZ HB))); have n1_ := Aside0.mk (below_step (kZ HB) hb); clear HB; have HO109 := n0_; have HB := n1_; clear n0_ n1_; clear hb ho62; obtain ⟨Ao63, co63, eo63⟩ := Kd.R_slice HO109.out; subst eo63) | ((with_reducible refine gate_callee (f := 11) rfl ?_); refine gL (some 16) Try.func11 #[.slice none 0 0, .int .i64 5, .int .i64 9, .slice Ao63 y107.length co63] rfl rfl ?_; (refine (locks_Take.calls (fun k_ => False) _ _ ([] : List (S34)) 5 9 _ _ y107 t110 t113 true _ ?side1 ?side2 ?side3 A1.out).mono ?_); (case side1 => exact Kd.V_nil _ _ _ _ _); (case side2 => exact kC ((Kd.R_reads' HO109.out).2.2)); (case side3 => exact (Kd.R_reads' HO109.out).2.1); rintro e w64 ⟨v111, v114, rfl, ho0, ho1, hb⟩; refine ⟨_, rfl, ?_⟩; have n0_ := Aside0.mk (Kd.R_below (kR HO109) hb); have n1_ := Aside0.mk (Kd.V_lower (Kd.V_mono (ok' := fun k_ => some k_ ≠ (v114 : Value).ownBlock ∧ some k_ ≠ (.slice Ao63 y107.length co63 : Value).ownBlock) ho0 (fun k_ hk_ => ⟨hk_.2, Or.elim hk_.1 (fun hs_ => (hs_).elim) (fun hn_ => (Kd.fresh' (Kd.R_lt (kR HO109)) k_ hn_))⟩)) (below_size (kZ HB))); have n2_ := Aside0.mk (Kd.R_lower (Kd.R_mono (ok' := fun k_ => True) ho1 (fun _ hk_ => trivial)) (below_size (kZ HB))); have n3_ := Aside0.mk (below_step (kZ HB) hb); clear HO109; clear HB; have HO109 := n0_; have HO112 := n1_; have HO115 := n2_; have HB := n3_; clear n0_ n1_ n2_ n3_; (try clear hb); (try clear hb2); (try clear hk); (try clear hi); (try clear ho0); (try clear ho1)) | ((with_reducible refine gate_dst (N := 22) rfl ?_); (try (refine gate_guard (by rfl) ?_; dsimp only)); refine Kd.R_lit Kd.string _ 9 ?hg (N := 22) ?hd (xs := ([(⟨#[47, 98]⟩ : ByteArray), (⟨#[47, 99]⟩ : ByteArray)] : List ByteArray)) (inner := [.string (⟨#[47, 98]⟩ : ByteArray), .string (⟨#[47, 99]⟩ : ByteArray)]) (ok := fun _ => True) (okp := fun _ => True) ?hr ?hp (fun _ hk => hk) trivial (Below.refl _ _) (Nat.le_refl _) (by simp) ?_; (case hd => rfl); (case hg => rfl); (case hr => first | (go_simp; done) | (go_simp; rfl)); (case hp => exact (Reps.one (show Kd.M Kd.string _ _ _ (⟨#[47, 98]⟩ : ByteArray) [.string (⟨#[47, 98]⟩ : ByteArray)] from rfl) (Reps.one (show Kd.M Kd.string _ _ _ (⟨#[47, 99]⟩ : ByteArray) [.string (⟨#[47, 99]⟩ : ByteArray)] from rfl) (Reps.none _ _)))); intro v118 w65 ho66 hb hg_ hnew_; clear hg_ hnew_; (first | rw [← Ny117.out] at ho66 | (simp only [Int.reduceToNat] at ho66; rw [← Ny117.out] at ho66)); have n0_ := Aside0.mk (Kd.R_elder' (kR HO109) (Kd.R_base ho66) hb); have n1_ := Aside0.mk (Kd.V_elder' (by (with_reducible repeat (first | apply Kd.V_alloc | apply Kd.V_drewN | apply Kd.V_drew)); exact HO112.out) (Kd.R_base ho66) hb); have n2_ := Aside0.mk (Kd.R_below (kR HO115) hb); have n3_ := Aside0.mk (Kd.R_lower (Kd.R_new' ho66 (Kd.R_lt (kR HO109))) (below_size (kZ HB))); have n4_ := Aside0.mk (below_step (kZ HB) hb); clear HO109; clear HO112; clear HO115; clear HB; have HO109 := n0_; have HO112 := n1_; have HO115 := n2_; have HO119 := n3_; have HB := n4_; clear n0_ n1_ n2_ n3_ n4_; clear hb ho66; obtain ⟨Ao67, co67, eo67⟩ := Kd.V_slice HO112.out; subst eo67; obtain ⟨Ao68, co68, eo68⟩ := Kd.R_slice HO119.out; subst eo68) | ((with_reducible refine gate_callee (f := 11) rfl ?_); refine gL (some 23) Try.func11 #[.slice Ao67 t110.length co67, .int .i64 3, .int .i64 2, .slice Ao68 y117.length co68] rfl rfl ?_; (with_reducible refine (locks_Take.calls (fun k_ => ((some k_ ≠ (v114 : Value).ownBlock ∧ some k_ ≠ (.slice Ao63 y107.length co63 : Value).ownBlock) ∧ some k_ ≠ (.slice Ao68 y117.length co68 : Value).ownBlock)) _ _ t110 3 2 _ _ y117 t120 t123 false _ ?side1 ?side2 ?side3 A2.out).mono ?_); (case side1 => exact HO112.out); (case side2 => exact kC ((Kd.R_reads' HO119.out).2.2)); (case side3 => exact (Kd.R_reads' HO119.out).2.1); rintro e w69 ⟨v121, v124, rfl, ho0, ho1, hb⟩; refine ⟨_, rfl, ?_⟩; have n0_ := Aside0.mk (Kd.R_below (kR HO109) hb); have n1_ := Aside0.mk (Kd.V_elder' (by (with_reducible repeat (first | apply Kd.V_alloc | apply Kd.V_drewN | apply Kd.V_drew)); exact HO112.out) (Kd.R_base ho1) hb); have n2_ := Aside0.mk (Kd.R_elder' (kR HO115) (Kd.R_base ho1) hb); have n3_ := Aside0.mk (Kd.R_below (kR HO119) hb); have n4_ := Aside0.mk (Kd.V_lower (Kd.V_mono (ok' := fun k_ => some k_ ≠ (v124 : Value).ownBlock ∧ some k_ ≠ (.slice Ao63 y107.length co63 : Value).ownBlock ∧ some k_ ≠ (v114 : Value).ownBlock ∧ some k_ ≠ (.slice Ao68 y117.length co68 : Value).ownBlock) ho0 (fun k_ hk_ => ⟨hk_.2, Or.elim hk_.1 (fun hs_ => hs_.1.2) (fun hn_ => (Kd.fresh' (Kd.R_lt (kR HO109)) k_ hn_)), Or.elim hk_.1 (fun hs_ => hs_.1.1) (fun hn_ => (Kd.fresh' (Kd.R_lt (kR HO115)) k_ hn_)), Or.elim hk_.1 (fun hs_ => hs_.2) (fun hn_ => (Kd.fresh' (Kd.R_lt (kR HO119)) k_ hn_))⟩)) (below_size (kZ HB))); have n5_ := Aside0.mk (Kd.R_lower (Kd.R_new' (Kd.R_mono (ok' := fun k_ => True) ho1 (fun _ hk_ => trivial)) (Kd.R_lt (kR HO115))) (below_size (kZ HB))); have n6_ := Aside0.mk (below_step (kZ HB) hb); clear HO109; clear HO112; clear HO115; clear HO119; clear HB; have HO109 := n0_; have HO112 := n1_; have HO115 := n2_; have HO119 := n3_; have HO122 := n4_; have HO125 := n5_; have HB := n6_; clear n0_ n1_ n2_ n3_ n4_ n5_ n6_; (try clear hb); (try clear hb2); (try clear hk); (try clear hi); (try clear ho0); (try clear ho1)) | ((with_reducible refine gate_dst (N := 29) rfl ?_); (try (refine gate_guard (by rfl) ?_; dsimp only)); refine Kd.R_lit Kd.string _ 9 ?hg (N := 29) ?hd (xs := ([(⟨#[47, 98]⟩ : ByteArray)] : List ByteArray)) (inner := [.string (⟨#[47, 98]⟩ : ByteArray)]) (ok := fun _ => True) (okp := fun _ => True) ?hr ?hp (fun _ hk => hk) trivial (Below.refl _ _) (Nat.le_refl _) (by simp) ?_; (case hd => rfl); (case hg => rfl); (case hr => first | (go_simp; done) | (go_simp; rfl)); (case hp => exact (Reps.one (show Kd.M Kd.string _ _ _ (⟨#[47, 98]⟩ : ByteArray) [.string (⟨#[47, 98]⟩ : ByteArray)] from rfl) (Reps.none _ _))); intro v128 w70 ho71 hb hg_ hnew_; clear hg_ hnew_; (first | rw [← Ny127.out] at ho71 | (simp only [Int.reduceToNat] at ho71; rw [← Ny127.out] at ho71)); have n0_ := Aside0.mk (Kd.R_elder' (kR HO109) (Kd.R_base ho71) hb); have n1_ := Aside0.mk (Kd.V_elder' (by (with_reducible repeat (first | apply Kd.V_alloc | apply Kd.V_drewN | apply Kd.V_drew)); exact HO112.out) (Kd.R_base ho71) hb); have n2_ := Aside0.mk (Kd.R_below (kR HO115) hb); have n3_ := Aside0.mk (Kd.R_elder' (kR HO119) (Kd.R_base ho71) hb); have n4_ := Aside0.mk (Kd.V_elder' (by (with_reducible repeat (first | apply Kd.V_alloc | apply Kd.V_drewN | apply Kd.V_drew)); exact HO122.out) (Kd.R_base ho71) hb); have n5_ := Aside0.mk (Kd.R_below (kR HO125) hb); have n6_ := Aside0.mk (Kd.R_lower (Kd.R_new' (Kd.R_new' ho71 (Kd.R_lt (kR HO109))) (Kd.R_lt (kR HO119))) (below_size (kZ HB))); have n7_ := Aside0.mk (below_step (kZ HB) hb); clear HO109; clear HO112; clear HO115; clear HO119; clear HO122; clear HO125; clear HB; have HO109 := n0_; have HO112 := n1_; have HO115 := n2_; have HO119 := n3_; have HO122 := n4_; have HO125 := n5_; have HO129 := n6_; have HB := n7_; clear n0_ n1_ n2_ n3_ n4_ n5_ n6_ n7_; clear hb ho71; obtain ⟨Ao72, co72, eo72⟩ := Kd.R_slice HO129.out; subst eo72) | ((with_reducible refine gate_callee (f := 11) rfl ?_); refine gL (some 30) Try.func11 #[.slice Ao67 t110.length co67, .int .i64 7, .int .i64 12, .slice Ao72 y127.length co72] rfl rfl ?_; (with_reducible refine (locks_Take.calls (fun k_ => ((((some k_ ≠ (v114 : Value).ownBlock ∧ some k_ ≠ (.slice Ao63 y107.length co63 : Value).ownBlock) ∧ some k_ ≠ (.slice Ao68 y117.length co68 : Value).ownBlock) ∧ some k_ ≠ (v124 : Value).ownBlock) ∧ some k_ ≠ (.slice Ao72 y127.length co72 : Value).ownBlock)) _ _ t110 7 12 _ _ y127 t130 t133 false _ ?side1 ?side2 ?side3 A3.out).mono ?_); (case side1 => exact HO112.out); (case side2 => exact kC ((Kd.R_reads' HO129.out).2.2)); (case side3 => exact (Kd.R_reads' HO129.out).2.1); rintro e w73 ⟨v131, v134, rfl, ho0, ho1, hb⟩; refine ⟨_, rfl, ?_⟩; have n0_ := Aside0.mk (Kd.R_below (kR HO109) hb); have n1_ := Aside0.mk (Kd.V_elder' (by (with_reducible repeat (first | apply Kd.V_alloc | apply Kd.V_drewN | apply Kd.V_drew)); exact HO112.out) (Kd.R_base ho1) hb); have n2_ := Aside0.mk (Kd.R_elder' (kR HO115) (Kd.R_base ho1) hb); have n3_ := Aside0.mk (Kd.R_below (kR HO119) hb); have n4_ := Aside0.mk (Kd.V_elder' (by (with_reducible repeat (first | apply Kd.V_alloc | apply Kd.V_drewN | apply Kd.V_drew)); exact HO122.out) (Kd.R_base ho1) hb); have n5_ := Aside0.mk (Kd.R_elder' (kR HO125) (Kd.R_base ho1) hb); have n6_ := Aside0.mk (Kd.R_below (kR HO129) hb); have n7_ := Aside0.mk (Kd.V_lower (Kd.V_mono (ok' := fun k_ => some k_ ≠ (v134 : Value).ownBlock ∧ some k_ ≠ (.slice Ao63 y107.length co63 : Value).ownBlock ∧ some k_ ≠ (v114 : Value).ownBlock ∧ some k_ ≠ (.slice Ao68 y117.length co68 : Value).ownBlock ∧ some k_ ≠ (v124 : Value).ownBlock ∧ some k_ ≠ (.slice Ao72 y127.length co72 : Value).ownBlock) ho0 (fun k_ hk_ => ⟨hk_.2, Or.elim hk_.1 (fun hs_ => hs_.1.1.1.2) (fun hn_ => (Kd.fresh' (Kd.R_lt (kR HO109)) k_ hn_)), Or.elim hk_.1 (fun hs_ => hs_.1.1.1.1) (fun hn_ => (Kd.fresh' (Kd.R_lt (kR HO115)) k_ hn_)), Or.elim hk_.1 (fun hs_ => hs_.1.1.2) (fun hn_ => (Kd.fresh' (Kd.R_lt (kR HO119)) k_ hn_)), Or.elim hk_.1 (fun hs_ => hs_.1.2) (fun hn_ => (Kd.fresh' (Kd.R_lt (kR HO125)) k_ hn_)), Or.elim hk_.1 (fun hs_ => hs_.2) (fun hn_ => (Kd.fresh' (Kd.R_lt (kR HO129)) k_ hn_))⟩)) (below_size (kZ HB))); have n8_ := Aside0.mk (Kd.R_lower (Kd.R_new' (Kd.R_new' (Kd.R_mono (ok' := fun k_ => True) ho1 (fun _ hk_ => trivial)) (Kd.R_lt (kR HO115))) (Kd.R_lt (kR HO125))) (below_size (kZ HB))); have n9_ := Aside0.mk (below_step (kZ HB) hb); clear HO109; clear HO112; clear HO115; clear HO119; clear HO122; clear HO125; clear HO129; clear HB; have HO109 := n0_; have HO112 := n1_; have HO115 := n2_; have HO119 := n3_; have HO122 := n4_; have HO125 := n5_; have HO129 := n6_; have HO132 := n7_; have HO135 := n8_; have HB := n9_; clear n0_ n1_ n2_ n3_ n4_ n5_ n6_ n7_ n8_ n9_; (try clear hb); (try clear hb2); (try clear hk); (try clear hi); (try clear ho0); (try clear ho1)) | ((with_reducible refine gate_callee (f := 14) rfl ?_); refine gL (some 35) Try.func14 #[.slice Ao67 t110.length co67, .int .i64 5] rfl rfl ?_; (with_reducible refine (locks_Free.calls _ _ t110 5 t137 _ ?side1 ?side2 A4.out).mono ?_); (case side1 => exact kC ((Kd.V_reads' HO112.out).2.2)); (case side2 => exact (Kd.V_reads' HO112.out).2.1); rintro e w74 ⟨v138, rfl, ho0, hb⟩; refine ⟨_, rfl, ?_⟩; have n0_ := Aside0.mk (Kd.R_below (kR HO109) hb); have n1_ := Aside0.mk (Kd.V_elder' (by (with_reducible repeat (first | apply Kd.V_alloc | apply Kd.V_drewN | apply Kd.V_drew)); exact HO112.out) (Kd.R_base ho0) hb); have n2_ := Aside0.mk (Kd.R_below (kR HO115) hb); have n3_ := Aside0.mk (Kd.R_below (kR HO119) hb); have n4_ := Aside0.mk (Kd.V_elder' (by (with_reducible repeat (first | apply Kd.V_alloc | apply Kd.V_drewN | apply Kd.V_drew)); exact HO122.out) (Kd.R_base ho0) hb); have n5_ := Aside0.mk (Kd.R_below (kR HO125) hb); have n6_ := Aside0.mk (Kd.R_below (kR HO129) hb); have n7_ := Aside0.mk (Kd.V_elder' (by (with_reducible repeat (first | apply Kd.V_alloc | apply Kd.V_drewN | apply Kd.V_drew)); exact HO132.out) (Kd.R_base ho0) hb); have n8_ := Aside0.mk (Kd.R_below (kR HO135) hb); have n9_ := Aside0.mk (Kd.R_lower ho0 (below_size (kZ HB))); have n10_ := Aside0.mk (below_step (kZ HB) hb); clear HO109; clear HO112; clear HO115; clear HO119; clear HO122; clear HO125; clear HO129; clear HO132; clear HO135; clear HB; have HO109 := n0_; have HO112 := n1_; have HO115 := n2_; have HO119 := n3_; have HO122 := n4_; have HO125 := n5_; have HO129 := n6_; have HO132 := n7_; have HO135 := n8_; have HO139 := n9_; have HB := n10_; clear n0_ n1_ n2_ n3_ n4_ n5_ n6_ n7_ n8_ n9_ n10_; (try clear hb); (try clear hb2); (try clear hk); (try clear hi); (try clear ho0)) | ((with_reducible refine gate_callee (f := 13) rfl ?_); refine gL (some 38) Try.func13 #[.slice Ao67 t110.length co67, .string (⟨#[47, 98]⟩ : ByteArray)] rfl rfl ?_; (with_reducible refine (locks_Held.calls _ _ t110 (⟨#[47, 98]⟩ : ByteArray) t140 true _ ?side1 ?side2 A5.out).mono ?_); (case side1 => exact kC ((Kd.V_reads' HO112.out).2.2)); (case side2 => exact (Kd.V_reads' HO112.out).2.1); rintro e w75 ⟨rfl, hb⟩; refine ⟨_, rfl, ?_⟩; have n0_ := Aside0.mk (Kd.R_below (kR HO109) hb); have n1_ := Aside0.mk (Kd.V_below (by (with_reducible repeat (first | apply Kd.V_alloc | apply Kd.V_drewN | apply Kd.V_drew)); exact HO112.out) hb); have n2_ := Aside0.mk (Kd.R_below (kR HO115) hb); have n3_ := Aside0.mk (Kd.R_below (kR HO119) hb); have n4_ := Aside0.mk (Kd.V_below (by (with_reducible repeat (first | apply Kd.V_alloc | apply Kd.V_drewN | apply Kd.V_drew)); exact HO122.out) hb); have n5_ := Aside0.mk (Kd.R_below (kR HO125) hb); have n6_ := Aside0.mk (Kd.R_below (kR HO129) hb); have n7_ := Aside0.mk (Kd.V_below (by (with_reducible repeat (first | apply Kd.V_alloc | apply Kd.V_drewN | apply Kd.V_drew)); exact HO132.out) hb); have n8_ := Aside0.mk (Kd.R_below (kR HO135) hb); have n9_ := Aside0.mk (Kd.R_below (kR HO139) hb); have n10_ := Aside0.mk (below_step (kZ HB) hb); clear HO109; clear HO112; clear HO115; clear HO119; clear HO122; clear HO125; clear HO129; clear HO132; clear HO135; clear HO139; clear HB; have HO109 := n0_; have HO112 := n1_; have HO115 := n2_; have HO119 := n3_; have HO122 := n4_; have HO125 := n5_; have HO129 := n6_; have HO132 := n7_; have HO135 := n8_; have HO139 := n9_; have HB := n10_; clear n0_ n1_ n2_ n3_ n4_ n5_ n6_ n7_ n8_ n9_ n10_; (try clear hb); (try clear hb2); (try clear hk); (try clear hi)) | ((with_reducible refine gate_dst (N := 47) rfl ?_); (try (refine gate_guard (by rfl) ?_; dsimp only)); refine Kd.R_lit k44 _ 44 ?hg (N := 47) ?hd (xs := ([(⟨0, (⟨0, (⟨#[47, 122]⟩ : ByteArray), (⟨#[]⟩ : ByteArray), (⟨#[]⟩ : ByteArray), 0, 0, false⟩ : S42)⟩ : S44), (⟨0, (⟨0, (⟨#[47]⟩ : ByteArray), (⟨#[]⟩ : ByteArray), (⟨#[]⟩ : ByteArray), 0, 0, false⟩ : S42)⟩ : S44), (⟨0, (⟨0, (⟨#[47, 122]⟩ : ByteArray), (⟨#[]⟩ : ByteArray), (⟨#[]⟩ : ByteArray), 0, 0, false⟩ : S42)⟩ : S44)] : List (S44))) (inner := [.int .i64 0, .int .i64 0, .string (⟨#[47, 122]⟩ : ByteArray), .string (⟨#[]⟩ : ByteArray), .string (⟨#[]⟩ : ByteArray), .int .i64 0, .int .i64 0, .bool false, .int .i64 0, .int .i64 0, .string (⟨#[47]⟩ : ByteArray), .string (⟨#[]⟩ : ByteArray), .string (⟨#[]⟩ : ByteArray), .int .i64 0, .int .i64 0, .bool false, .int .i64 0, .int .i64 0, .string (⟨#[47, 122]⟩ : ByteArray), .string (⟨#[]⟩ : ByteArray), .string (⟨#[]⟩ : ByteArray), .int .i64 0, .int .i64 0, .bool false]) (ok := fun _ => True) (okp := fun _ => True) ?hr ?hp (fun _ hk => hk) trivial (Below.refl _ _) (Nat.le_refl _) (by simp) ?_; (case hd => rfl); (case hg => rfl); (case hr => first | (go_simp; done) | (go_simp; rfl)); (case hp => exact (Reps.c8 (show Kd.M k44 _ _ _ (⟨0, (⟨0, (⟨#[47, 122]⟩ : ByteArray), (⟨#[]⟩ : ByteArray), (⟨#[]⟩ : ByteArray), 0, 0, false⟩ : S42)⟩ : S44) [.int .i64 0, .int .i64 0, .string (⟨#[47, 122]⟩ : ByteArray), .string (⟨#[]⟩ : ByteArray), .string (⟨#[]⟩ : ByteArray), .int .i64 0, .int .i64 0, .bool false] from (k44_mkM _ _ _ (⟨0, (⟨0, (⟨#[47, 122]⟩ : ByteArray), (⟨#[]⟩ : ByteArray), (⟨#[]⟩ : ByteArray), 0, 0, false⟩ : S42)⟩ : S44) )) (Reps.c8 (show Kd.M k44 _ _ _ (⟨0, (⟨0, (⟨#[47]⟩ : ByteArray), (⟨#[]⟩ : ByteArray), (⟨#[]⟩ : ByteArray), 0, 0, false⟩ : S42)⟩ : S44) [.int .i64 0, .int .i64 0, .string (⟨#[47]⟩ : ByteArray), .string (⟨#[]⟩ : ByteArray), .string (⟨#[]⟩ : ByteArray), .int .i64 0, .int .i64 0, .bool false] from (k44_mkM _ _ _ (⟨0, (⟨0, (⟨#[47]⟩ : ByteArray), (⟨#[]⟩ : ByteArray), (⟨#[]⟩ : ByteArray), 0, 0, false⟩ : S42)⟩ : S44) )) (Reps.c8 (show Kd.M k44 _ _ _ (⟨0, (⟨0, (⟨#[47, 122]⟩ : ByteArray), (⟨#[]⟩ : ByteArray), (⟨#[]⟩ : ByteArray), 0, 0, false⟩ : S42)⟩ : S44) [.int .i64 0, .int .i64 0, .string (⟨#[47, 122]⟩ : ByteArray), .string (⟨#[]⟩ : ByteArray), .string (⟨#[]⟩ : ByteArray), .int .i64 0, .int .i64 0, .bool false] from (k44_mkM _ _ _ (⟨0, (⟨0, (⟨#[47, 122]⟩ : ByteArray), (⟨#[]⟩ : ByteArray), (⟨#[]⟩ : ByteArray), 0, 0, false⟩ : S42)⟩ : S44) )) (Reps.none _ _))))); intro v143 w76 ho77 hb hg_ hnew_; clear hg_ hnew_; (first | rw [← Ny142.out] at ho77 | (simp only [Int.reduceToNat] at ho77; rw [← Ny142.out] at ho77)); have n0_ := Aside0.mk (Kd.R_below (kR HO109) hb); have n1_ := Aside0.mk (Kd.V_elder' (by (with_reducible repeat (first | apply Kd.V_alloc | apply Kd.V_drewN | apply Kd.V_drew)); exact HO112.out) (Kd.R_base ho77) hb); have n2_ := Aside0.mk (Kd.R_below (kR HO115) hb); have n3_ := Aside0.mk (Kd.R_below (kR HO119) hb); have n4_ := Aside0.mk (Kd.V_elder' (by (with_reducible repeat (first | apply Kd.V_alloc | apply Kd.V_drewN | apply Kd.V_drew)); exact HO122.out) (Kd.R_base ho77) hb); have n5_ := Aside0.mk (Kd.R_below (kR HO125) hb); have n6_ := Aside0.mk (Kd.R_below (kR HO129) hb); have n7_ := Aside0.mk (Kd.V_elder' (by (with_reducible repeat (first | apply Kd.V_alloc | apply Kd.V_drewN | apply Kd.V_drew)); exact HO132.out) (Kd.R_base ho77) hb); have n8_ := Aside0.mk (Kd.R_below (kR HO135) hb); have n9_ := Aside0.mk (Kd.R_below (kR HO139) hb); have n10_ := Aside0.mk (Kd.R_lower ho77 (below_size (kZ HB))); have n11_ := Aside0.mk (below_step (kZ HB) hb); clear HO109; clear HO112; clear HO115; clear HO119; clear HO122; clear HO125; clear HO129; clear HO132; clear HO135; clear HO139; clear HB; have HO109 := n0_; have HO112 := n1_; have HO115 := n2_; have HO119 := n3_; have HO122 := n4_; have HO125 := n5_; have HO129 := n6_; have HO132 := n7_; have HO135 := n8_; have HO139 := n9_; have HO144 := n10_; have HB := n11_; clear n0_ n1_ n2_ n3_ n4_ n5_ n6_ n7_ n8_ n9_ n10_ n11_; clear hb ho77; obtain ⟨Ao78, co78, eo78⟩ := Kd.R_slice HO144.out; subst eo78) | ((with_reducible refine gate_callee (f := 15) rfl ?_); refine gL (some 48) Try.func15 #[.slice Ao78 y142.length co78] rfl rfl ?_; (with_reducible refine (locks_Dirs.calls _ _ y142 t145 _ ?side1 ?side2 A6.out).mono ?_); (case side1 => exact kC ((Kd.R_reads' HO144.out).2.2)); (case side2 => exact (Kd.R_reads' HO144.out).2.1); rintro e w79 ⟨v146, rfl, ho0, hb⟩; refine ⟨_, rfl, ?_⟩; have n0_ := Aside0.mk (Kd.R_elder' (kR HO109) (Kd.R_base ho0) hb); have n1_ := Aside0.mk (Kd.V_elder' (by (with_reducible repeat (first | apply Kd.V_alloc | apply Kd.V_drewN | apply Kd.V_drew)); exact HO112.out) (Kd.R_base ho0) hb); have n2_ := Aside0.mk (Kd.R_below (kR HO115) hb); have n3_ := Aside0.mk (Kd.R_elder' (kR HO119) (Kd.R_base ho0) hb); have n4_ := Aside0.mk (Kd.V_elder' (by (with_reducible repeat (first | apply Kd.V_alloc | apply Kd.V_drewN | apply Kd.V_drew)); exact HO122.out) (Kd.R_base ho0) hb); have n5_ := Aside0.mk (Kd.R_below (kR HO125) hb); have n6_ := Aside0.mk (Kd.R_elder' (kR HO129) (Kd.R_base ho0) hb); have n7_ := Aside0.mk (Kd.V_elder' (by (with_reducible repeat (first | apply Kd.V_alloc | apply Kd.V_drewN | apply Kd.V_drew)); exact HO132.out) (Kd.R_base ho0) hb); have n8_ := Aside0.mk (Kd.R_below (kR HO135) hb); have n9_ := Aside0.mk (Kd.R_below (kR HO139) hb); have n10_ := Aside0.mk (Kd.R_below (kR HO144) hb); have n11_ := Aside0.mk (Kd.R_lower (Kd.R_new' (Kd.R_new' (Kd.R_new' ho0 (Kd.R_lt (kR HO109))) (Kd.R_lt (kR HO119))) (Kd.R_lt (kR HO129))) (below_size (kZ HB))); have n12_ := Aside0.mk (below_step (kZ HB) hb); clear HO109; clear HO112; clear HO115; clear HO119; clear HO122; clear HO125; clear HO129; clear HO132; clear HO135; clear HO139; clear HO144; clear HB; have HO109 := n0_; have HO112 := n1_; have HO115 := n2_; have HO119 := n3_; have HO122 := n4_; have HO125 := n5_; have HO129 := n6_; have HO132 := n7_; have HO135 := n8_; have HO139 := n9_; have HO144 := n10_; have HO147 := n11_; have HB := n12_; clear n0_ n1_ n2_ n3_ n4_ n5_ n6_ n7_ n8_ n9_ n10_ n11_ n12_; (try clear hb); (try clear hb2); (try clear hk); (try clear hi); (try clear ho0); obtain ⟨Ao80, co80, eo80⟩ := Kd.R_slice HO125.out; subst eo80; have p148 : 0 ≤ (0 : Int) := (by omega); have q148 : 0 < (t123.length : Int) := of_decide_eq_true (by first | (with_reducible assumption) | assumption); obtain ⟨ad148, e148, hx148_0⟩ := Kd.at_int (Kd.R_reads' HO125.out).2.2 0 p148 q148; cases e148; have qi148 : (0 < t123.length) = True := eq_true (by omega); (try rw [show ((0 : Int)).toNat = 0 from rfl] at hx148_0); (try rw [Addr.add_zero'] at hx148_0); replace p148 := eq_true p148; replace q148 := eq_true q148; obtain ⟨Ao81, co81, eo81⟩ := Kd.R_slice HO135.out; subst eo81; obtain ⟨Ao82, co82, eo82⟩ := Kd.R_slice HO139.out; subst eo82; obtain ⟨Ao83, co83, eo83⟩ := Kd.R_slice HO147.out; subst eo83; have p149 : 0 ≤ (0 : Int) := (by omega); have q149 : 0 < (t145.length : Int) := of_decide_eq_true (by first | (with_reducible assumption) | assumption); obtain ⟨ad149, e149, hx149_0⟩ := Kd.at_string (Kd.R_reads' HO147.out).2.2 0 p149 q149; cases e149; have qi149 : (0 < t145.length) = True := eq_true (by omega); (try rw [show ((0 : Int)).toNat = 0 from rfl] at hx149_0); (try rw [Addr.add_zero'] at hx149_0); replace p149 := eq_true p149; replace q149 := eq_true q149) | (go_at_call 16; (with_reducible refine (locks_Right.calls _ _ t110 t150 _ ?side1 ?side2 A60.out).mono ?_); (case side1 => exact kC ((Kd.V_reads' HO112.out).2.2)); (case side2 => exact (Kd.V_reads' HO112.out).2.1); rintro e w84 ⟨rfl, hb⟩; have n0_ := Aside0.mk (Kd.R_below (kR HO109) hb); have n1_ := Aside0.mk (Kd.V_below (by (with_reducible repeat (first | apply Kd.V_alloc | apply Kd.V_drewN | apply Kd.V_drew)); exact HO112.out) hb); have n2_ := Aside0.mk (Kd.R_below (kR HO115) hb); have n3_ := Aside0.mk (Kd.R_below (kR HO119) hb); have n4_ := Aside0.mk (Kd.V_below (by (with_reducible repeat (first | apply Kd.V_alloc | apply Kd.V_drewN | apply Kd.V_drew)); exact HO122.out) hb); have n5_ := Aside0.mk (Kd.R_below (kR HO125) hb); have n6_ := Aside0.mk (Kd.R_below (kR HO129) hb); have n7_ := Aside0.mk (Kd.V_below (by (with_reducible repeat (first | apply Kd.V_alloc | apply Kd.V_drewN | apply Kd.V_drew)); exact HO132.out) hb); have n8_ := Aside0.mk (Kd.R_below (kR HO135) hb); have n9_ := Aside0.mk (Kd.R_below (kR HO139) hb); have n10_ := Aside0.mk (Kd.R_below (kR HO144) hb); have n11_ := Aside0.mk (Kd.R_below (kR HO147) hb); have n12_ := Aside0.mk (below_step (kZ HB) hb); clear HO109; clear HO112; clear HO115; clear HO119; clear HO122; clear HO125; clear HO129; clear HO132; clear HO135; clear HO139; clear HO144; clear HO147; clear HB; have HO109 := n0_; have HO112 := n1_; have HO115 := n2_; have HO119 := n3_; have HO122 := n4_; have HO125 := n5_; have HO129 := n6_; have HO132 := n7_; have HO135 := n8_; have HO139 := n9_; have HO144 := n10_; have HO147 := n11_; have HB := n12_; clear n0_ n1_ n2_ n3_ n4_ n5_ n6_ n7_ n8_ n9_ n10_ n11_ n12_; (try clear hb); (try clear hb2); (try clear hk); (try clear hi)))
               go_ret
               exact ⟨by first | rfl | (simp [errW_none, errW_some] <;> rfl) | (simp [*, errW_none, errW_some] <;> rfl), kZ HB⟩
              ·rw [if_neg c59] at H
               have c59b0 : ((rdOf ByteArray.empty t145 0).toList == ([47] : List UInt8)) = false := beq_eq_false_iff_ne.mpr c59
               have c59b1 : ((rdOf ByteArray.empty t145 0).toList != ([47] : List UInt8)) = true := bne_iff_ne.mpr c59
               exact absurd ((Option.some.inj H).trans hr) (by decide)
             ·rw [if_neg c58] at H
              exact absurd H (by simp)
            ·rw [if_neg c57] at H
             have c57b0 : ((t145.length : Int) == 2) = false := beq_eq_false_iff_ne.mpr c57
             have c57b1 : ((t145.length : Int) != 2) = true := bne_iff_ne.mpr c57
             exact absurd ((Option.some.inj H).trans hr) (by decide)
           ·replace c56 := Bool.eq_false_iff.mpr c56
            subst c56
            have H1 : (some false) = some r := by rw [if_neg (show ¬ (false = true) by decide)] at H; exact H
            clear H
            have H := H1
            clear H1
            exact absurd ((Option.some.inj H).trans hr) (by decide)
          ·rw [if_neg c55] at H
           have c55b0 : (t140 == 5) = false := beq_eq_false_iff_ne.mpr c55
           have c55b1 : (t140 != 5) = true := bne_iff_ne.mpr c55
           exact absurd ((Option.some.inj H).trans hr) (by decide)
         ·rw [if_neg c54] at H
          have c54b0 : ((t137.length : Int) == 0) = false := beq_eq_false_iff_ne.mpr c54
          have c54b1 : ((t137.length : Int) != 0) = true := bne_iff_ne.mpr c54
          have c54b2 : ¬ (t137 = []) := fun h_ => c54 (by rw [h_]; rfl)
          exact absurd ((Option.some.inj H).trans hr) (by decide)
        ·rw [if_neg c53] at H
         have c53b0 : ((t133.length : Int) == 0) = false := beq_eq_false_iff_ne.mpr c53
         have c53b1 : ((t133.length : Int) != 0) = true := bne_iff_ne.mpr c53
         have c53b2 : ¬ (t133 = []) := fun h_ => c53 (by rw [h_]; rfl)
         exact absurd ((Option.some.inj H).trans hr) (by decide)
      ·rw [if_neg c31] at H
       have c31b0 : ((rd t123 0) == 5) = false := beq_eq_false_iff_ne.mpr c31
       have c31b1 : ((rd t123 0) != 5) = true := bne_iff_ne.mpr c31
       exact absurd ((Option.some.inj H).trans hr) (by decide)
     ·rw [if_neg c30] at H
      exact absurd H (by simp)
    ·rw [if_neg c29] at H
     have c29b0 : ((t123.length : Int) == 1) = false := beq_eq_false_iff_ne.mpr c29
     have c29b1 : ((t123.length : Int) != 1) = true := bne_iff_ne.mpr c29
     exact absurd ((Option.some.inj H).trans hr) (by decide)
  ·rw [if_neg c8] at H
   have c8b0 : ((t110.length : Int) == 2) = false := beq_eq_false_iff_ne.mpr c8
   have c8b1 : ((t110.length : Int) != 2) = true := bne_iff_ne.mpr c8
   exact absurd ((Option.some.inj H).trans hr) (by decide)
 ·replace c7 := Bool.eq_false_iff.mpr c7
  subst c7
  have H1 : (some false) = some r := by rw [if_neg (show ¬ (false = true) by decide)] at H; exact H
  clear H
  have H := H1
  clear H1
  exact absurd ((Option.some.inj H).trans hr) (by decide)
theorem cantonlaw10_head.is : cantonlaw10_head.f = some true := by kernel_rfl
theorem cantonlaw10_head.calls (r : Bool) (w : World) (h : cantonlaw10_head.f = some r) :
  Calls Try.prog 8 #[] w fun e w' => e = .returned (.bool r) ∧ Below w.heap.size w w' := cantonlaw10_head.calls_true r w (Option.some.inj (h.symm.trans cantonlaw10_head.is)) h

/-! ### cantonlaw10_great: function 9 -/
mutual
def cantonlaw10_great.j1 : Nat → List (S34) → List ByteArray → Int → Option (Bool)
 | 0, _, _, _ => none
 | k + 1, x0, x1, x5 => cantonlaw10_great.l1 k x0 x1 x5 0
def cantonlaw10_great.l1 : Nat → List (S34) → List ByteArray → Int → Int → Option (Bool)
 | 0, _, _, _, _ => none
 | k + 1, x0, x1, x5, x7 => if x7 < (x1.length : Int) then (if x5 < 3000 then (if 0 ≤ x7 then (cantonlaw10_great.l1 k x0 x1 (wrap64 (x5 + (mn ((rdOf ByteArray.empty x1 x7).size : Int) 3000))) (wrap64 (x7 + 1))) else (none)) else (if x5 ≥ 3000 then (some true) else (if (x0.length : Int) > 200 then (some true) else (some (decide ((x1.length : Int) > 200)))))) else (if x5 ≥ 3000 then (some true) else (if (x0.length : Int) > 200 then (some true) else (some (decide ((x1.length : Int) > 200)))))
def cantonlaw10_great.l0 : Nat → List (S34) → List ByteArray → Int → Int → Option (Bool)
 | 0, _, _, _, _ => none
 | k + 1, x0, x1, x5, x6 => if x6 < (x0.length : Int) then (if x5 < 3000 then (if 0 ≤ x6 then (cantonlaw10_great.l0 k x0 x1 (wrap64 (x5 + (mn (((rd_T34 x0 x6).f0).size : Int) 3000))) (wrap64 (x6 + 1))) else (none)) else (cantonlaw10_great.j1 k x0 x1 x5)) else (cantonlaw10_great.j1 k x0 x1 x5)
end
def cantonlaw10_great.f (k : Nat) (l0 : List (S34)) (l1 : List ByteArray) : Option (Bool) := cantonlaw10_great.l0 k l0 l1 (wrap64 ((l0.length : Int) + (l1.length : Int))) 0
theorem cantonlaw10_great.mono_l : ∀ k, (∀ y0 y1 y2, LeO (cantonlaw10_great.j1 k y0 y1 y2) (cantonlaw10_great.j1 (k + 1) y0 y1 y2)) ∧ (∀ y0 y1 y2 y3, LeO (cantonlaw10_great.l1 k y0 y1 y2 y3) (cantonlaw10_great.l1 (k + 1) y0 y1 y2 y3)) ∧ (∀ y0 y1 y2 y3, LeO (cantonlaw10_great.l0 k y0 y1 y2 y3) (cantonlaw10_great.l0 (k + 1) y0 y1 y2 y3))
 | 0 => ⟨fun _ _ _ r h => by simp [cantonlaw10_great.j1] at h, fun _ _ _ _ r h => by simp [cantonlaw10_great.l1] at h, fun _ _ _ _ r h => by simp [cantonlaw10_great.l0] at h⟩
 | k + 1 => by
  obtain ⟨ih0, ih1, ih2⟩ := cantonlaw10_great.mono_l k
  refine ⟨?_, ?_, ?_⟩
  ·intro y0 y1 y2
   unfold cantonlaw10_great.j1
   repeat' first
   | (with_reducible exact ih0 _ _ _)
   | (with_reducible exact ih1 _ _ _ _)
   | (with_reducible exact ih2 _ _ _ _)
   | (with_reducible exact LeO.refl _)
   | (with_reducible exact LeO.none _)
   | (with_reducible refine LeO.ite ?_ ?_)
   | (with_reducible refine LeO.bind ?_ (fun _ => ?_))
   | exact ih0 _ _ _
   | exact ih1 _ _ _ _
   | exact ih2 _ _ _ _
   | exact LeO.none _
   | refine LeO.ite ?_ ?_
   | refine LeO.bind ?_ (fun _ => ?_)
  ·intro y0 y1 y2 y3
   unfold cantonlaw10_great.l1
   repeat' first
   | (with_reducible exact ih0 _ _ _)
   | (with_reducible exact ih1 _ _ _ _)
   | (with_reducible exact ih2 _ _ _ _)
   | (with_reducible exact LeO.refl _)
   | (with_reducible exact LeO.none _)
   | (with_reducible refine LeO.ite ?_ ?_)
   | (with_reducible refine LeO.bind ?_ (fun _ => ?_))
   | exact ih0 _ _ _
   | exact ih1 _ _ _ _
   | exact ih2 _ _ _ _
   | exact LeO.none _
   | refine LeO.ite ?_ ?_
   | refine LeO.bind ?_ (fun _ => ?_)
  ·intro y0 y1 y2 y3
   unfold cantonlaw10_great.l0
   repeat' first
   | (with_reducible exact ih0 _ _ _)
   | (with_reducible exact ih1 _ _ _ _)
   | (with_reducible exact ih2 _ _ _ _)
   | (with_reducible exact LeO.refl _)
   | (with_reducible exact LeO.none _)
   | (with_reducible refine LeO.ite ?_ ?_)
   | (with_reducible refine LeO.bind ?_ (fun _ => ?_))
   | exact ih0 _ _ _
   | exact ih1 _ _ _ _
   | exact ih2 _ _ _ _
   | exact LeO.none _
   | refine LeO.ite ?_ ?_
   | refine LeO.bind ?_ (fun _ => ?_)
theorem cantonlaw10_great.mono : ∀ a0 a1 k, LeO (cantonlaw10_great.f k a0 a1) (cantonlaw10_great.f (k + 1) a0 a1) := by
 intro a0 a1 k
 obtain ⟨ih0, ih1, ih2⟩ := cantonlaw10_great.mono_l k
 unfold cantonlaw10_great.f
 repeat' first
   | (with_reducible exact ih0 _ _ _)
   | (with_reducible exact ih1 _ _ _ _)
   | (with_reducible exact ih2 _ _ _ _)
   | (with_reducible exact LeO.refl _)
   | (with_reducible exact LeO.none _)
   | (with_reducible refine LeO.ite ?_ ?_)
   | (with_reducible refine LeO.bind ?_ (fun _ => ?_))
   | exact ih0 _ _ _
   | exact ih1 _ _ _ _
   | exact ih2 _ _ _ _
   | exact LeO.none _
   | refine LeO.ite ?_ ?_
   | refine LeO.bind ?_ (fun _ => ?_)
set_option maxHeartbeats 8000000 in
set_option maxRecDepth 100000 in
theorem cantonlaw10_great.calls (k : Nat) (A0 : Option Addr) (c0 : Nat) (l0 : List (S34)) (A1 : Option Addr) (c1 : Nat) (l1 : List ByteArray) (r : Bool) (w : World) (hr0 : Kd.C k34 w A0 l0.length l0) (hc0 : l0.length ≤ c0) (hr1 : Kd.C Kd.string w A1 l1.length l1) (hc1 : l1.length ≤ c1) (h : cantonlaw10_great.f k l0 l1 = some r) :
  Calls Try.prog 9 #[.slice A0 l0.length c0, .slice A1 l1.length c1] w fun e w' => e = .returned (.bool r) ∧ Below w.heap.size w w' := by
 have HR0 := Aside0.mk hr0
 have HC0 := Aside0.mk hc0
 clear hr0 hc0
 have HR1 := Aside0.mk hr1
 have HC1 := Aside0.mk hc1
 clear hr1 hc1
 have HB := Aside0.mk (Below.refl w.heap.size w)
 have H : (cantonlaw10_great.l0 k l0 l1 (wrap64 ((l0.length : Int) + (l1.length : Int))) 0) = some r := h
 clear h
 have HC3 := Aside0.mk H
 clear H
 go_enter Try.func9, Try.ntmps9
 go_upto_block 0 with (fail)
 go_cut [5] (fun v5 wc => ∃ (kq : Nat) (x5_2 : Int), v5 = .int .i64 x5_2 ∧ Aside0 (cantonlaw10_great.j1 kq l0 l1 x5_2 = some r) ∧ Aside0 (kq ≤ k) ∧ Aside0 (Below w.heap.size w wc))
 case first =>
  have H := HC3.out
  clear HC3
  have H' := Aside0.mk H
  clear H
  go_wp2
  go_loopg [5, 6] k (fun kq v5 v6 w' => ∃ (x5_1 : Int) (x6_1 : Int), v5 = .int .i64 x5_1 ∧ v6 = .int .i64 x6_1 ∧ Aside0 (cantonlaw10_great.l0 kq l0 l1 x5_1 x6_1 = some r) ∧ Aside0 (kq ≤ k) ∧ Aside0 (Below w.heap.size w w'))
  case atStart => exact ⟨(wrap64 ((l0.length : Int) + (l1.length : Int))), (0), (by first | rfl | (simp; done) | (simp [*]; done)), (by first | rfl | (simp; done) | (simp [*]; done)), H', ⟨Nat.le_refl _⟩, ⟨kZ HB⟩⟩
  case round =>
   clear H'
   try clear c1
   try clear p2
   obtain ⟨x5_1, x6_1, rfl, rfl, HA, HK1, HB⟩ := hrel
   cases gk with
   | zero => exact absurd HA.out (by simp [cantonlaw10_great.l0])
   | succ k1 =>
    have H := HA.out
    clear HA
    simp only [cantonlaw10_great.l0] at H
    by_cases c4 : x6_1 < (l0.length : Int)
    ·rw [if_pos c4] at H
     have c4b0 : decide (x6_1 < (l0.length : Int)) = true := decide_eq_true c4
     clear c4
     (first | rw [c4b0] | (simp only [i64_w, i32_w]; rw [c4b0]) | skip)
     by_cases c5 : x5_1 < 3000
     ·rw [if_pos c5] at H
      have c5b0 : decide (x5_1 < 3000) = true := decide_eq_true c5
      clear c5
      by_cases c6 : 0 ≤ x6_1
      ·rw [if_pos c6] at H
       have c6b0 : decide (0 ≤ x6_1) = true := decide_eq_true c6
       clear c6
       obtain ⟨ji7, hji7⟩ : ∃ j_ : Int, (mn (((rd_T34 l0 x6_1).f0).size : Int) 3000) = j_ := ⟨_, rfl⟩
       replace H : (cantonlaw10_great.l0 k1 l0 l1 (wrap64 (x5_1 + (ji7))) (wrap64 (x6_1 + 1))) = some r := by first | (rw [hji7] at H; exact H) | (simp only [hji7] at H ⊢; exact H)
       have hji7_ : (if 3000 < (((rd_T34 l0 x6_1).f0).size : Int) then 3000 else (((rd_T34 l0 x6_1).f0).size : Int)) = ji7 := hji7
       have H' := Aside0.mk H
       clear H
       have p151 : 0 ≤ (x6_1 : Int) := of_decide_eq_true (by first | (with_reducible assumption) | assumption)
       have q151 : x6_1 < (l0.length : Int) := of_decide_eq_true (by first | (with_reducible assumption) | assumption)
       obtain ⟨ad151, e151, hx151_0, hx151_1, hx151_2⟩ := at_T34 HR0.out x6_1 p151 q151
       cases e151
       replace hx151_0 := (HB.out.cell (World.block_lt_of_cell? w _ hx151_0)).trans hx151_0
       replace hx151_1 := (HB.out.cell (World.block_lt_of_cell? w _ hx151_1)).trans hx151_1
       replace hx151_2 := (HB.out.cell (World.block_lt_of_cell? w _ hx151_2)).trans hx151_2
       replace p151 := eq_true p151
       replace q151 := eq_true q151
       go_wp2
       go_roundg k1
       case measure => have := HK1.out; omega
       case rel => exact ⟨(wrap64 (x5_1 + (ji7))), (wrap64 (x6_1 + 1)), (by first | rfl | (simp; done) | (simp only [← hji7] <;> (first | rfl | simp)) | (simp [*]; done)), (by first | rfl | (simp; done) | (simp [*]; done)), H', ⟨by have := HK1.out; omega⟩, ⟨kZ HB⟩⟩
      ·rw [if_neg c6] at H
       exact absurd H (by simp)
     ·rw [if_neg c5] at H
      have c5b0 : decide (x5_1 < 3000) = false := decide_eq_false c5
      clear c5
      have H' := Aside0.mk H
      clear H
      go_wp2
      go_meet
      case rel => exact ⟨_, (x5_1), (by first | rfl | (simp; done) | (simp [*]; done)), H', ⟨by have := HK1.out; first | omega | exact Nat.le_refl _⟩, ⟨kZ HB⟩⟩
    ·rw [if_neg c4] at H
     have c4b0 : decide (x6_1 < (l0.length : Int)) = false := decide_eq_false c4
     clear c4
     (first | rw [c4b0] | (simp only [i64_w, i32_w]; rw [c4b0]) | skip)
     have H' := Aside0.mk H
     clear H
     go_wp2
     go_meet
     case rel => exact ⟨_, (x5_1), (by first | rfl | (simp; done) | (simp [*]; done)), H', ⟨by have := HK1.out; first | omega | exact Nat.le_refl _⟩, ⟨kZ HB⟩⟩
 case rest =>
  clear HC3
  try clear c1
  try clear p1
  try clear q1
  try clear hx1
  try clear p2
  try clear c4
  try clear c4b0
  try clear c5
  try clear c5b0
  try clear c6
  try clear c6b0
  try clear p6
  try clear hx151_0
  try clear hx151_1
  try clear hx151_2
  try clear p151
  try clear p2
  try clear q151
  obtain ⟨kq, x5_2, rfl, HA, HJ2, HB⟩ := hcut
  cases kq with
  | zero => exact absurd HA.out (by simp [cantonlaw10_great.j1])
  | succ kj2 =>
   have H := HA.out
   clear HA
   simp only [cantonlaw10_great.j1] at H
   have H' := Aside0.mk H
   clear H
   go_wp2
   go_loopg [5, 7] kj2 (fun kq v5 v7 w' => ∃ (x5_2 : Int) (x7_2 : Int), v5 = .int .i64 x5_2 ∧ v7 = .int .i64 x7_2 ∧ Aside0 (cantonlaw10_great.l1 kq l0 l1 x5_2 x7_2 = some r) ∧ Aside0 (kq ≤ kj2) ∧ Aside0 (Below w.heap.size w w'))
   case atStart => exact ⟨(x5_2), (0), (by first | rfl | (simp; done) | (simp [*]; done)), (by first | rfl | (simp; done) | (simp [*]; done)), H', ⟨Nat.le_refl _⟩, ⟨kZ HB⟩⟩
   case round =>
    clear H'
    try clear c1
    try clear p1
    try clear q1
    try clear hx1
    try clear p2
    try clear c4
    try clear c4b0
    try clear c5
    try clear c5b0
    try clear c6
    try clear c6b0
    try clear p6
    try clear hx151_0
    try clear hx151_1
    try clear hx151_2
    try clear p1
    try clear p151
    try clear p2
    try clear p6
    try clear q1
    try clear q151
    obtain ⟨x5_2, x7_2, rfl, rfl, HA, HK2, HB⟩ := hrel
    cases gk with
    | zero => exact absurd HA.out (by simp [cantonlaw10_great.l1])
    | succ k2 =>
     have H := HA.out
     clear HA
     simp only [cantonlaw10_great.l1] at H
     by_cases c8 : x7_2 < (l1.length : Int)
     ·rw [if_pos c8] at H
      have c8b0 : decide (x7_2 < (l1.length : Int)) = true := decide_eq_true c8
      clear c8
      by_cases c9 : x5_2 < 3000
      ·rw [if_pos c9] at H
       have c9b0 : decide (x5_2 < 3000) = true := decide_eq_true c9
       clear c9
       by_cases c10 : 0 ≤ x7_2
       ·rw [if_pos c10] at H
        have c10b0 : decide (0 ≤ x7_2) = true := decide_eq_true c10
        clear c10
        obtain ⟨ji11, hji11⟩ : ∃ j_ : Int, (mn ((rdOf ByteArray.empty l1 x7_2).size : Int) 3000) = j_ := ⟨_, rfl⟩
        replace H : (cantonlaw10_great.l1 k2 l0 l1 (wrap64 (x5_2 + (ji11))) (wrap64 (x7_2 + 1))) = some r := by first | (rw [hji11] at H; exact H) | (simp only [hji11] at H ⊢; exact H)
        have hji11_ : (if 3000 < ((rdOf ByteArray.empty l1 x7_2).size : Int) then 3000 else ((rdOf ByteArray.empty l1 x7_2).size : Int)) = ji11 := hji11
        have H' := Aside0.mk H
        clear H
        have p152 : 0 ≤ (x7_2 : Int) := of_decide_eq_true (by first | (with_reducible assumption) | assumption)
        have q152 : x7_2 < (l1.length : Int) := of_decide_eq_true (by first | (with_reducible assumption) | assumption)
        obtain ⟨ad152, e152, hx152_0⟩ := Kd.at_string HR1.out x7_2 p152 q152
        cases e152
        replace hx152_0 := (HB.out.cell (World.block_lt_of_cell? w _ hx152_0)).trans hx152_0
        replace p152 := eq_true p152
        replace q152 := eq_true q152
        go_wp2
        go_roundg k2
        case measure => have := HJ2.out; have := HK2.out; omega
        case rel => exact ⟨(wrap64 (x5_2 + (ji11))), (wrap64 (x7_2 + 1)), (by first | rfl | (simp; done) | (simp only [← hji11] <;> (first | rfl | simp)) | (simp [*]; done)), (by first | rfl | (simp; done) | (simp [*]; done)), H', ⟨by have := HJ2.out; have := HK2.out; omega⟩, ⟨kZ HB⟩⟩
       ·rw [if_neg c10] at H
        exact absurd H (by simp)
      ·rw [if_neg c9] at H
       have c9b0 : decide (x5_2 < 3000) = false := decide_eq_false c9
       clear c9
       by_cases c12 : x5_2 ≥ 3000
       ·rw [if_pos c12] at H
        have c12b0 : decide (3000 ≤ x5_2) = true := decide_eq_true c12
        clear c12
        obtain rfl := Option.some.inj H
        go_wp2
        go_ret
        exact ⟨by first | rfl | (simp [errW_none, errW_some] <;> rfl) | (simp [*, errW_none, errW_some] <;> rfl), kZ HB⟩
       ·rw [if_neg c12] at H
        have c12b0 : decide (3000 ≤ x5_2) = false := decide_eq_false c12
        clear c12
        by_cases c13 : (l0.length : Int) > 200
        ·rw [if_pos c13] at H
         have c13b0 : decide (200 < (l0.length : Int)) = true := decide_eq_true c13
         have c13b1 : decide (200 < l0.length) = true := decide_eq_true (by omega)
         clear c13
         obtain rfl := Option.some.inj H
         go_wp2
         go_ret
         exact ⟨by first | rfl | (simp [errW_none, errW_some] <;> rfl) | (simp [*, errW_none, errW_some] <;> rfl), kZ HB⟩
        ·rw [if_neg c13] at H
         have c13b0 : decide (200 < (l0.length : Int)) = false := decide_eq_false c13
         have c13b1 : decide (200 < l0.length) = false := decide_eq_false (by omega)
         clear c13
         obtain rfl := Option.some.inj H
         go_wp2
         go_ret
         exact ⟨by first | rfl | (simp [errW_none, errW_some] <;> rfl) | (simp [*, errW_none, errW_some] <;> rfl), kZ HB⟩
     ·rw [if_neg c8] at H
      have c8b0 : decide (x7_2 < (l1.length : Int)) = false := decide_eq_false c8
      clear c8
      by_cases c14 : x5_2 ≥ 3000
      ·rw [if_pos c14] at H
       have c14b0 : decide (3000 ≤ x5_2) = true := decide_eq_true c14
       clear c14
       obtain rfl := Option.some.inj H
       go_wp2
       go_ret
       exact ⟨by first | rfl | (simp [errW_none, errW_some] <;> rfl) | (simp [*, errW_none, errW_some] <;> rfl), kZ HB⟩
      ·rw [if_neg c14] at H
       have c14b0 : decide (3000 ≤ x5_2) = false := decide_eq_false c14
       clear c14
       by_cases c15 : (l0.length : Int) > 200
       ·rw [if_pos c15] at H
        have c15b0 : decide (200 < (l0.length : Int)) = true := decide_eq_true c15
        have c15b1 : decide (200 < l0.length) = true := decide_eq_true (by omega)
        clear c15
        obtain rfl := Option.some.inj H
        go_wp2
        go_ret
        exact ⟨by first | rfl | (simp [errW_none, errW_some] <;> rfl) | (simp [*, errW_none, errW_some] <;> rfl), kZ HB⟩
       ·rw [if_neg c15] at H
        have c15b0 : decide (200 < (l0.length : Int)) = false := decide_eq_false c15
        have c15b1 : decide (200 < l0.length) = false := decide_eq_false (by omega)
        clear c15
        obtain rfl := Option.some.inj H
        go_wp2
        go_ret
        exact ⟨by first | rfl | (simp [errW_none, errW_some] <;> rfl) | (simp [*, errW_none, errW_some] <;> rfl), kZ HB⟩
end Go.Proofs.Ytclomgbiomojjaa.Q
