/-
  No cell of these rows narrows 'for every input' (looked for: loops, veiled, ifaces, maps, wideKeys, modest, calm, conditions, laid).
  DERIVED. THE GIVEN ROWS OF THIS SEAT. 6 by the template 'for every input the law returns true; each argument reads behind the call as it read before'; 0 by the template 'total and deterministic' (their statements: YtinjajpnbbknnaaTotals.lean).
  GIVEN WITH THE SEED: the statements are not yours to turn. If you find one false, say at which input.
  Laid BY PROGRAM, IN A SANDBOX (cutbox-rows.mjs): the forced cells as the released guide's own fill.sh prints them over the translation 35d93d6f8340c150… (all of the seat's roots in one cut). By AI agents, Wed Nov 11 2026. No macro, syntax, notation, axiom, sorry.
-/
import Derived.Test.YtinjajpnbbknnaaChecked
import GoSem.Claim
import GoSem.ClaimJoined
import GoSem.ClaimMapViews
import Derived.JoinedTies
import Derived.KernelRfl
namespace Go.Proofs.Ytinjajpnbbknnaa
/- THE CELL 'sum', in the pinned program and in every row, IS THE sha256 OF THE DUMP (.gsa) THAT YtinjajpnbbknnaaProg.lean LOADS. Nothing in Lean hashes anything: it is a label: what it is worth is what the hold of that sum in a sandbox is worth. -/
noncomputable def Try.pinned : Pinned := { name := "ytinjajpnbbknnaa", sum := "35d93d6f8340c150f303e2344e9116a5bd94aa570e8c934f90994f2c1cfe7e01", checked := Try.checked }
namespace Rows
def none {H : Type} : Left H := { results := [], args := [] }

/-- 'cantonlaw11.OwnedTells': WHATEVER THE INPUT: true; the input reads as it did. -/
def ownedTellsSpec : ChangeSpec := { name := "ownedTells", fn := fun _ => fun
  | [d1, d2, d3] => { results := [.lit (.bool true)], args := [d1, d2, d3] }
  | _ => none }
def ownedTellsRow : OpenClaim := { program := "ytinjajpnbbknnaa", sum := "35d93d6f8340c150f303e2344e9116a5bd94aa570e8c934f90994f2c1cfe7e01", func := "canton/cantonlaw11.OwnedTells", spec := "ownedTells", inPlace := ["internal/bytealg.IndexByteString", "internal/bytealg.IndexString", "internal/bytealg.abigen_runtime_cmpstring", "slices.overlaps[canton/api.Range]"], unfollowed := true, recurses := true, named := ["internal/bytealg.MaxLen"], apart := false }
def OwnedTellsSaid : Prop := ownedTellsRow.holds Try.pinned (OpenSpec.ofChange ownedTellsSpec)

/-- ITS FALSE NEIGHBOUR: 'it returns false'. Refute it at one input. -/
def ownedTellsWrong : ChangeSpec := { name := "ownedTells", fn := fun _ => fun
  | [d1, d2, d3] => { results := [.lit (.bool false)], args := [d1, d2, d3] }
  | _ => none }
def OwnedTellsWrongFalsely : Prop := ownedTellsRow.holds Try.pinned (OpenSpec.ofChange ownedTellsWrong)

/-- 'cantonlaw11.OwnedCuts': WHATEVER THE INPUT: true; the input reads as it did. -/
def ownedCutsSpec : ChangeSpec := { name := "ownedCuts", fn := fun _ => fun
  | [d1, d2, d3] => { results := [.lit (.bool true)], args := [d1, d2, d3] }
  | _ => none }
def ownedCutsRow : OpenClaim := { program := "ytinjajpnbbknnaa", sum := "35d93d6f8340c150f303e2344e9116a5bd94aa570e8c934f90994f2c1cfe7e01", func := "canton/cantonlaw11.OwnedCuts", spec := "ownedCuts", inPlace := ["internal/bytealg.IndexByteString", "internal/bytealg.IndexString", "internal/bytealg.abigen_runtime_cmpstring", "slices.overlaps[canton/api.Range]"], unfollowed := true, recurses := true, named := ["internal/bytealg.MaxLen"], apart := false }
def OwnedCutsSaid : Prop := ownedCutsRow.holds Try.pinned (OpenSpec.ofChange ownedCutsSpec)

/-- ITS FALSE NEIGHBOUR: 'it returns false'. Refute it at one input. -/
def ownedCutsWrong : ChangeSpec := { name := "ownedCuts", fn := fun _ => fun
  | [d1, d2, d3] => { results := [.lit (.bool false)], args := [d1, d2, d3] }
  | _ => none }
def OwnedCutsWrongFalsely : Prop := ownedCutsRow.holds Try.pinned (OpenSpec.ofChange ownedCutsWrong)

/-- 'cantonlaw11.OwnedOne': WHATEVER THE INPUT: true; the input reads as it did. -/
def ownedOneSpec : ChangeSpec := { name := "ownedOne", fn := fun _ => fun
  | [d1, d2, d3, d4] => { results := [.lit (.bool true)], args := [d1, d2, d3, d4] }
  | _ => none }
def ownedOneRow : OpenClaim := { program := "ytinjajpnbbknnaa", sum := "35d93d6f8340c150f303e2344e9116a5bd94aa570e8c934f90994f2c1cfe7e01", func := "canton/cantonlaw11.OwnedOne", spec := "ownedOne", inPlace := ["internal/bytealg.IndexByteString", "internal/bytealg.IndexString", "internal/bytealg.abigen_runtime_cmpstring", "slices.overlaps[canton/api.Range]"], unfollowed := true, recurses := true, named := ["internal/bytealg.MaxLen"], apart := false }
def OwnedOneSaid : Prop := ownedOneRow.holds Try.pinned (OpenSpec.ofChange ownedOneSpec)

/-- ITS FALSE NEIGHBOUR: 'it returns false'. Refute it at one input. -/
def ownedOneWrong : ChangeSpec := { name := "ownedOne", fn := fun _ => fun
  | [d1, d2, d3, d4] => { results := [.lit (.bool false)], args := [d1, d2, d3, d4] }
  | _ => none }
def OwnedOneWrongFalsely : Prop := ownedOneRow.holds Try.pinned (OpenSpec.ofChange ownedOneWrong)

/-- 'cantonlaw11.OwnedEpochs': WHATEVER THE INPUT: true; the input reads as it did. -/
def ownedEpochsSpec : ChangeSpec := { name := "ownedEpochs", fn := fun _ => fun
  | [d1, d2, d3] => { results := [.lit (.bool true)], args := [d1, d2, d3] }
  | _ => none }
def ownedEpochsRow : OpenClaim := { program := "ytinjajpnbbknnaa", sum := "35d93d6f8340c150f303e2344e9116a5bd94aa570e8c934f90994f2c1cfe7e01", func := "canton/cantonlaw11.OwnedEpochs", spec := "ownedEpochs", inPlace := ["internal/bytealg.IndexByteString", "internal/bytealg.IndexString", "internal/bytealg.abigen_runtime_cmpstring", "slices.overlaps[canton/api.Range]"], unfollowed := true, recurses := true, named := ["internal/bytealg.MaxLen"], apart := false }
def OwnedEpochsSaid : Prop := ownedEpochsRow.holds Try.pinned (OpenSpec.ofChange ownedEpochsSpec)

/-- ITS FALSE NEIGHBOUR: 'it returns false'. Refute it at one input. -/
def ownedEpochsWrong : ChangeSpec := { name := "ownedEpochs", fn := fun _ => fun
  | [d1, d2, d3] => { results := [.lit (.bool false)], args := [d1, d2, d3] }
  | _ => none }
def OwnedEpochsWrongFalsely : Prop := ownedEpochsRow.holds Try.pinned (OpenSpec.ofChange ownedEpochsWrong)

/-- 'cantonlaw11.OwnedMoves': WHATEVER THE INPUT: true; the input reads as it did. -/
def ownedMovesSpec : ChangeSpec := { name := "ownedMoves", fn := fun _ => fun
  | [d1, d2] => { results := [.lit (.bool true)], args := [d1, d2] }
  | _ => none }
def ownedMovesRow : OpenClaim := { program := "ytinjajpnbbknnaa", sum := "35d93d6f8340c150f303e2344e9116a5bd94aa570e8c934f90994f2c1cfe7e01", func := "canton/cantonlaw11.OwnedMoves", spec := "ownedMoves", inPlace := ["internal/bytealg.IndexByteString", "internal/bytealg.IndexString", "internal/bytealg.abigen_runtime_cmpstring", "slices.overlaps[canton/api.Range]"], unfollowed := true, recurses := true, named := ["internal/bytealg.MaxLen"], apart := false }
def OwnedMovesSaid : Prop := ownedMovesRow.holds Try.pinned (OpenSpec.ofChange ownedMovesSpec)

/-- ITS FALSE NEIGHBOUR: 'it returns false'. Refute it at one input. -/
def ownedMovesWrong : ChangeSpec := { name := "ownedMoves", fn := fun _ => fun
  | [d1, d2] => { results := [.lit (.bool false)], args := [d1, d2] }
  | _ => none }
def OwnedMovesWrongFalsely : Prop := ownedMovesRow.holds Try.pinned (OpenSpec.ofChange ownedMovesWrong)

/-- 'cantonlaw11.OwnedRoom': WHATEVER THE INPUT: true; the input reads as it did. -/
def ownedRoomSpec : ChangeSpec := { name := "ownedRoom", fn := fun _ => fun
  | [d1, d2] => { results := [.lit (.bool true)], args := [d1, d2] }
  | _ => none }
def ownedRoomRow : OpenClaim := { program := "ytinjajpnbbknnaa", sum := "35d93d6f8340c150f303e2344e9116a5bd94aa570e8c934f90994f2c1cfe7e01", func := "canton/cantonlaw11.OwnedRoom", spec := "ownedRoom", inPlace := ["internal/bytealg.IndexByteString", "internal/bytealg.IndexString", "internal/bytealg.abigen_runtime_cmpstring", "slices.overlaps[canton/api.Range]"], unfollowed := true, recurses := true, named := ["internal/bytealg.MaxLen"], apart := false }
def OwnedRoomSaid : Prop := ownedRoomRow.holds Try.pinned (OpenSpec.ofChange ownedRoomSpec)

/-- ITS FALSE NEIGHBOUR: 'it returns false'. Refute it at one input. -/
def ownedRoomWrong : ChangeSpec := { name := "ownedRoom", fn := fun _ => fun
  | [d1, d2] => { results := [.lit (.bool false)], args := [d1, d2] }
  | _ => none }
def OwnedRoomWrongFalsely : Prop := ownedRoomRow.holds Try.pinned (OpenSpec.ofChange ownedRoomWrong)

/- THE SECOND FORM. 'bulk': how many values and letters a reading holds, each counted each time it is reached (what is shared counts as often as it is met; a slice's spare places count too). A statement '..UptoSaid' is the law's where the arguments, and the package variables that the reading takes, are together of bulk at most 1048576: NARROWER than '..Said'. Prove '..Said' where nothing that the law and all that it calls make is longer than what came in: it says more and counts as full. Else prove '..UptoSaid'. A law counts once. -/
mutual
def uptoBulk {H : Type} : DataW H → Nat
  | .lit (.string bytes) => bytes.length + 1
  | .lit _ => 1
  | .nil => 1
  | .ptr d => uptoBulk d + 1
  | .slice elems spare => uptoBulkAll elems + uptoBulkAll spare + 1
  | .agg parts => uptoBulkAll parts + 1
  | .iface _ d => uptoBulk d + 1
  | .map entries => uptoBulkEntries entries + 1
  | .held _ => 1
def uptoBulkAll {H : Type} : List (DataW H) → Nat
  | [] => 0
  | d :: r => uptoBulk d + uptoBulkAll r
def uptoBulkEntries {H : Type} : List (Lit × DataW H) → Nat
  | [] => 0
  | x :: r => uptoBulkEntry x + uptoBulkEntries r
def uptoBulkEntry {H : Type} : Lit × DataW H → Nat
  | (.string bytes, d) => bytes.length + uptoBulk d + 1
  | (_, d) => uptoBulk d + 1
 end
def uptoSmall : (H : Type) → List (DataW H) → Bool := fun _ ds => decide (uptoBulkAll ds ≤ 1048576)
def OpenSpec.upto (s : _root_.Go.ChangeSpec) : _root_.Go.OpenSpec := { _root_.Go.OpenSpec.ofChange s with cond := some uptoSmall }

/-- 'cantonlaw11.OwnedTells', WHERE WHAT IT READS IS OF BULK AT MOST 1048576: true; the input reads as it did. -/
def ownedTellsUptoRow : OpenClaim := { program := "ytinjajpnbbknnaa", sum := "35d93d6f8340c150f303e2344e9116a5bd94aa570e8c934f90994f2c1cfe7e01", func := "canton/cantonlaw11.OwnedTells", spec := "ownedTells", inPlace := ["internal/bytealg.IndexByteString", "internal/bytealg.IndexString", "internal/bytealg.abigen_runtime_cmpstring", "slices.overlaps[canton/api.Range]"], unfollowed := true, recurses := true, named := ["internal/bytealg.MaxLen"], apart := false, narrowed := true }
def OwnedTellsUptoSaid : Prop := ownedTellsUptoRow.holds Try.pinned (OpenSpec.upto ownedTellsSpec)

/-- 'cantonlaw11.OwnedCuts', WHERE WHAT IT READS IS OF BULK AT MOST 1048576: true; the input reads as it did. -/
def ownedCutsUptoRow : OpenClaim := { program := "ytinjajpnbbknnaa", sum := "35d93d6f8340c150f303e2344e9116a5bd94aa570e8c934f90994f2c1cfe7e01", func := "canton/cantonlaw11.OwnedCuts", spec := "ownedCuts", inPlace := ["internal/bytealg.IndexByteString", "internal/bytealg.IndexString", "internal/bytealg.abigen_runtime_cmpstring", "slices.overlaps[canton/api.Range]"], unfollowed := true, recurses := true, named := ["internal/bytealg.MaxLen"], apart := false, narrowed := true }
def OwnedCutsUptoSaid : Prop := ownedCutsUptoRow.holds Try.pinned (OpenSpec.upto ownedCutsSpec)

/-- 'cantonlaw11.OwnedOne', WHERE WHAT IT READS IS OF BULK AT MOST 1048576: true; the input reads as it did. -/
def ownedOneUptoRow : OpenClaim := { program := "ytinjajpnbbknnaa", sum := "35d93d6f8340c150f303e2344e9116a5bd94aa570e8c934f90994f2c1cfe7e01", func := "canton/cantonlaw11.OwnedOne", spec := "ownedOne", inPlace := ["internal/bytealg.IndexByteString", "internal/bytealg.IndexString", "internal/bytealg.abigen_runtime_cmpstring", "slices.overlaps[canton/api.Range]"], unfollowed := true, recurses := true, named := ["internal/bytealg.MaxLen"], apart := false, narrowed := true }
def OwnedOneUptoSaid : Prop := ownedOneUptoRow.holds Try.pinned (OpenSpec.upto ownedOneSpec)

/-- 'cantonlaw11.OwnedEpochs', WHERE WHAT IT READS IS OF BULK AT MOST 1048576: true; the input reads as it did. -/
def ownedEpochsUptoRow : OpenClaim := { program := "ytinjajpnbbknnaa", sum := "35d93d6f8340c150f303e2344e9116a5bd94aa570e8c934f90994f2c1cfe7e01", func := "canton/cantonlaw11.OwnedEpochs", spec := "ownedEpochs", inPlace := ["internal/bytealg.IndexByteString", "internal/bytealg.IndexString", "internal/bytealg.abigen_runtime_cmpstring", "slices.overlaps[canton/api.Range]"], unfollowed := true, recurses := true, named := ["internal/bytealg.MaxLen"], apart := false, narrowed := true }
def OwnedEpochsUptoSaid : Prop := ownedEpochsUptoRow.holds Try.pinned (OpenSpec.upto ownedEpochsSpec)

/-- 'cantonlaw11.OwnedMoves', WHERE WHAT IT READS IS OF BULK AT MOST 1048576: true; the input reads as it did. -/
def ownedMovesUptoRow : OpenClaim := { program := "ytinjajpnbbknnaa", sum := "35d93d6f8340c150f303e2344e9116a5bd94aa570e8c934f90994f2c1cfe7e01", func := "canton/cantonlaw11.OwnedMoves", spec := "ownedMoves", inPlace := ["internal/bytealg.IndexByteString", "internal/bytealg.IndexString", "internal/bytealg.abigen_runtime_cmpstring", "slices.overlaps[canton/api.Range]"], unfollowed := true, recurses := true, named := ["internal/bytealg.MaxLen"], apart := false, narrowed := true }
def OwnedMovesUptoSaid : Prop := ownedMovesUptoRow.holds Try.pinned (OpenSpec.upto ownedMovesSpec)

/-- 'cantonlaw11.OwnedRoom', WHERE WHAT IT READS IS OF BULK AT MOST 1048576: true; the input reads as it did. -/
def ownedRoomUptoRow : OpenClaim := { program := "ytinjajpnbbknnaa", sum := "35d93d6f8340c150f303e2344e9116a5bd94aa570e8c934f90994f2c1cfe7e01", func := "canton/cantonlaw11.OwnedRoom", spec := "ownedRoom", inPlace := ["internal/bytealg.IndexByteString", "internal/bytealg.IndexString", "internal/bytealg.abigen_runtime_cmpstring", "slices.overlaps[canton/api.Range]"], unfollowed := true, recurses := true, named := ["internal/bytealg.MaxLen"], apart := false, narrowed := true }
def OwnedRoomUptoSaid : Prop := ownedRoomUptoRow.holds Try.pinned (OpenSpec.upto ownedRoomSpec)

end Rows
end Go.Proofs.Ytinjajpnbbknnaa
