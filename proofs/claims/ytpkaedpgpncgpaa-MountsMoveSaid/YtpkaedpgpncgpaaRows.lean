/-
  No cell of these rows narrows 'for every input' (looked for: loops, veiled, ifaces, maps, wideKeys, modest, calm, conditions, laid).
  DERIVED. THE GIVEN ROWS OF THIS SEAT. 5 by the template 'for every input the law returns true; each argument reads behind the call as it read before'; 0 by the template 'total and deterministic' (their statements: YtpkaedpgpncgpaaTotals.lean).
  GIVEN WITH THE SEED: the statements are not yours to turn. If you find one false, say at which input.
  Laid BY PROGRAM, IN A SANDBOX (cutbox-rows.mjs): the forced cells as the released guide's own fill.sh prints them over the translation 43c27e89845dd488… (all of the seat's roots in one cut). By AI agents, Wed Nov 11 2026. No macro, syntax, notation, axiom, sorry.
-/
import Derived.Test.YtpkaedpgpncgpaaChecked
import GoSem.Claim
import GoSem.ClaimJoined
import GoSem.ClaimMapViews
import Derived.JoinedTies
import Derived.KernelRfl
namespace Go.Proofs.Ytpkaedpgpncgpaa
/- THE CELL 'sum', in the pinned program and in every row, IS THE sha256 OF THE DUMP (.gsa) THAT YtpkaedpgpncgpaaProg.lean LOADS. Nothing in Lean hashes anything: it is a label: what it is worth is what the hold of that sum in a sandbox is worth. -/
noncomputable def Try.pinned : Pinned := { name := "ytpkaedpgpncgpaa", sum := "43c27e89845dd48876f5d81c3ce30a7d1626be2244c127d18273899fd90ccf9e", checked := Try.checked }
namespace Rows
def none {H : Type} : Left H := { results := [], args := [] }

/-- 'cantonlaw14.MountsKeep': WHATEVER THE INPUT: true; the input reads as it did. -/
def mountsKeepSpec : ChangeSpec := { name := "mountsKeep", fn := fun _ => fun
  | [d1, d2, d3, d4, d5] => { results := [.lit (.bool true)], args := [d1, d2, d3, d4, d5] }
  | _ => none }
def mountsKeepRow : OpenClaim := { program := "ytpkaedpgpncgpaa", sum := "43c27e89845dd48876f5d81c3ce30a7d1626be2244c127d18273899fd90ccf9e", func := "canton/cantonlaw14.MountsKeep", spec := "mountsKeep", inPlace := ["internal/bytealg.IndexByteString", "internal/bytealg.IndexString", "internal/bytealg.abigen_runtime_cmpstring", "slices.overlaps[canton/api.Mount]"], unfollowed := true, recurses := true, named := ["internal/bytealg.MaxLen"], apart := false }
def MountsKeepSaid : Prop := mountsKeepRow.holds Try.pinned (OpenSpec.ofChange mountsKeepSpec)

/-- ITS FALSE NEIGHBOUR: 'it returns false'. Refute it at one input. -/
def mountsKeepWrong : ChangeSpec := { name := "mountsKeep", fn := fun _ => fun
  | [d1, d2, d3, d4, d5] => { results := [.lit (.bool false)], args := [d1, d2, d3, d4, d5] }
  | _ => none }
def MountsKeepWrongFalsely : Prop := mountsKeepRow.holds Try.pinned (OpenSpec.ofChange mountsKeepWrong)

/-- 'cantonlaw14.MountsMove': WHATEVER THE INPUT: true; the input reads as it did. -/
def mountsMoveSpec : ChangeSpec := { name := "mountsMove", fn := fun _ => fun
  | [d1, d2, d3] => { results := [.lit (.bool true)], args := [d1, d2, d3] }
  | _ => none }
def mountsMoveRow : OpenClaim := { program := "ytpkaedpgpncgpaa", sum := "43c27e89845dd48876f5d81c3ce30a7d1626be2244c127d18273899fd90ccf9e", func := "canton/cantonlaw14.MountsMove", spec := "mountsMove", inPlace := ["internal/bytealg.IndexByteString", "internal/bytealg.IndexString", "internal/bytealg.abigen_runtime_cmpstring", "slices.overlaps[canton/api.Mount]"], unfollowed := true, recurses := true, named := ["internal/bytealg.MaxLen"], apart := false }
def MountsMoveSaid : Prop := mountsMoveRow.holds Try.pinned (OpenSpec.ofChange mountsMoveSpec)

/-- ITS FALSE NEIGHBOUR: 'it returns false'. Refute it at one input. -/
def mountsMoveWrong : ChangeSpec := { name := "mountsMove", fn := fun _ => fun
  | [d1, d2, d3] => { results := [.lit (.bool false)], args := [d1, d2, d3] }
  | _ => none }
def MountsMoveWrongFalsely : Prop := mountsMoveRow.holds Try.pinned (OpenSpec.ofChange mountsMoveWrong)

/-- 'cantonlaw14.MountsApart': WHATEVER THE INPUT: true; the input reads as it did. -/
def mountsApartSpec : ChangeSpec := { name := "mountsApart", fn := fun _ => fun
  | [d1, d2, d3, d4, d5] => { results := [.lit (.bool true)], args := [d1, d2, d3, d4, d5] }
  | _ => none }
def mountsApartRow : OpenClaim := { program := "ytpkaedpgpncgpaa", sum := "43c27e89845dd48876f5d81c3ce30a7d1626be2244c127d18273899fd90ccf9e", func := "canton/cantonlaw14.MountsApart", spec := "mountsApart", inPlace := ["internal/bytealg.IndexByteString", "internal/bytealg.IndexString", "internal/bytealg.abigen_runtime_cmpstring", "slices.overlaps[canton/api.Mount]"], unfollowed := true, recurses := true, named := ["internal/bytealg.MaxLen"], apart := false }
def MountsApartSaid : Prop := mountsApartRow.holds Try.pinned (OpenSpec.ofChange mountsApartSpec)

/-- ITS FALSE NEIGHBOUR: 'it returns false'. Refute it at one input. -/
def mountsApartWrong : ChangeSpec := { name := "mountsApart", fn := fun _ => fun
  | [d1, d2, d3, d4, d5] => { results := [.lit (.bool false)], args := [d1, d2, d3, d4, d5] }
  | _ => none }
def MountsApartWrongFalsely : Prop := mountsApartRow.holds Try.pinned (OpenSpec.ofChange mountsApartWrong)

/-- 'cantonlaw14.MountsOne': WHATEVER THE INPUT: true; the input reads as it did. -/
def mountsOneSpec : ChangeSpec := { name := "mountsOne", fn := fun _ => fun
  | [d1, d2] => { results := [.lit (.bool true)], args := [d1, d2] }
  | _ => none }
def mountsOneRow : OpenClaim := { program := "ytpkaedpgpncgpaa", sum := "43c27e89845dd48876f5d81c3ce30a7d1626be2244c127d18273899fd90ccf9e", func := "canton/cantonlaw14.MountsOne", spec := "mountsOne", inPlace := ["internal/bytealg.IndexByteString", "internal/bytealg.IndexString", "internal/bytealg.abigen_runtime_cmpstring", "slices.overlaps[canton/api.Mount]"], unfollowed := true, recurses := true, named := ["internal/bytealg.MaxLen"], apart := false }
def MountsOneSaid : Prop := mountsOneRow.holds Try.pinned (OpenSpec.ofChange mountsOneSpec)

/-- ITS FALSE NEIGHBOUR: 'it returns false'. Refute it at one input. -/
def mountsOneWrong : ChangeSpec := { name := "mountsOne", fn := fun _ => fun
  | [d1, d2] => { results := [.lit (.bool false)], args := [d1, d2] }
  | _ => none }
def MountsOneWrongFalsely : Prop := mountsOneRow.holds Try.pinned (OpenSpec.ofChange mountsOneWrong)

/-- 'cantonlaw14.MountsRoom': WHATEVER THE INPUT: true; the input reads as it did. -/
def mountsRoomSpec : ChangeSpec := { name := "mountsRoom", fn := fun _ => fun
  | [d] => { results := [.lit (.bool true)], args := [d] }
  | _ => none }
def mountsRoomRow : OpenClaim := { program := "ytpkaedpgpncgpaa", sum := "43c27e89845dd48876f5d81c3ce30a7d1626be2244c127d18273899fd90ccf9e", func := "canton/cantonlaw14.MountsRoom", spec := "mountsRoom", inPlace := ["internal/bytealg.IndexByteString", "internal/bytealg.IndexString", "internal/bytealg.abigen_runtime_cmpstring", "slices.overlaps[canton/api.Mount]"], unfollowed := true, recurses := true, named := ["internal/bytealg.MaxLen"], apart := false }
def MountsRoomSaid : Prop := mountsRoomRow.holds Try.pinned (OpenSpec.ofChange mountsRoomSpec)

/-- ITS FALSE NEIGHBOUR: 'it returns false'. Refute it at one input. -/
def mountsRoomWrong : ChangeSpec := { name := "mountsRoom", fn := fun _ => fun
  | [d] => { results := [.lit (.bool false)], args := [d] }
  | _ => none }
def MountsRoomWrongFalsely : Prop := mountsRoomRow.holds Try.pinned (OpenSpec.ofChange mountsRoomWrong)

/- THE SECOND FORM. 'bulk': how many values and letters a reading holds, each counted each time it is reached (what is shared counts as often as it is met; a slice's spare places count too). A statement '..UptoSaid' is the law's where the arguments, and the package variables that the reading takes, are together of bulk at most 1048576: NARROWER than '..Said'. Prove '..Said' where nothing that the law and all that it calls make is longer than what came in: it says more and counts as full. Else prove '..UptoSaid'. A law counts once. -/
mutual
def uptoBulk {H : Type} : DataW H → Nat
  | .lit (.string bytes) => bytes.length + 1
  | .lit _ => 1
  | .nil => 1
  | .ptr d => uptoBulk d + 1
  | .slice elems spare => uptoBulkAll elems + uptoBulkAll spare + 1
  | .agg parts => uptoBulkAll parts + 1
  | .iface _ d => uptoBulk d + 1
  | .map entries => uptoBulkEntries entries + 1
  | .held _ => 1
def uptoBulkAll {H : Type} : List (DataW H) → Nat
  | [] => 0
  | d :: r => uptoBulk d + uptoBulkAll r
def uptoBulkEntries {H : Type} : List (Lit × DataW H) → Nat
  | [] => 0
  | x :: r => uptoBulkEntry x + uptoBulkEntries r
def uptoBulkEntry {H : Type} : Lit × DataW H → Nat
  | (.string bytes, d) => bytes.length + uptoBulk d + 1
  | (_, d) => uptoBulk d + 1
 end
def uptoSmall : (H : Type) → List (DataW H) → Bool := fun _ ds => decide (uptoBulkAll ds ≤ 1048576)
def OpenSpec.upto (s : _root_.Go.ChangeSpec) : _root_.Go.OpenSpec := { _root_.Go.OpenSpec.ofChange s with cond := some uptoSmall }

/-- 'cantonlaw14.MountsKeep', WHERE WHAT IT READS IS OF BULK AT MOST 1048576: true; the input reads as it did. -/
def mountsKeepUptoRow : OpenClaim := { program := "ytpkaedpgpncgpaa", sum := "43c27e89845dd48876f5d81c3ce30a7d1626be2244c127d18273899fd90ccf9e", func := "canton/cantonlaw14.MountsKeep", spec := "mountsKeep", inPlace := ["internal/bytealg.IndexByteString", "internal/bytealg.IndexString", "internal/bytealg.abigen_runtime_cmpstring", "slices.overlaps[canton/api.Mount]"], unfollowed := true, recurses := true, named := ["internal/bytealg.MaxLen"], apart := false, narrowed := true }
def MountsKeepUptoSaid : Prop := mountsKeepUptoRow.holds Try.pinned (OpenSpec.upto mountsKeepSpec)

/-- 'cantonlaw14.MountsMove', WHERE WHAT IT READS IS OF BULK AT MOST 1048576: true; the input reads as it did. -/
def mountsMoveUptoRow : OpenClaim := { program := "ytpkaedpgpncgpaa", sum := "43c27e89845dd48876f5d81c3ce30a7d1626be2244c127d18273899fd90ccf9e", func := "canton/cantonlaw14.MountsMove", spec := "mountsMove", inPlace := ["internal/bytealg.IndexByteString", "internal/bytealg.IndexString", "internal/bytealg.abigen_runtime_cmpstring", "slices.overlaps[canton/api.Mount]"], unfollowed := true, recurses := true, named := ["internal/bytealg.MaxLen"], apart := false, narrowed := true }
def MountsMoveUptoSaid : Prop := mountsMoveUptoRow.holds Try.pinned (OpenSpec.upto mountsMoveSpec)

/-- 'cantonlaw14.MountsApart', WHERE WHAT IT READS IS OF BULK AT MOST 1048576: true; the input reads as it did. -/
def mountsApartUptoRow : OpenClaim := { program := "ytpkaedpgpncgpaa", sum := "43c27e89845dd48876f5d81c3ce30a7d1626be2244c127d18273899fd90ccf9e", func := "canton/cantonlaw14.MountsApart", spec := "mountsApart", inPlace := ["internal/bytealg.IndexByteString", "internal/bytealg.IndexString", "internal/bytealg.abigen_runtime_cmpstring", "slices.overlaps[canton/api.Mount]"], unfollowed := true, recurses := true, named := ["internal/bytealg.MaxLen"], apart := false, narrowed := true }
def MountsApartUptoSaid : Prop := mountsApartUptoRow.holds Try.pinned (OpenSpec.upto mountsApartSpec)

/-- 'cantonlaw14.MountsOne', WHERE WHAT IT READS IS OF BULK AT MOST 1048576: true; the input reads as it did. -/
def mountsOneUptoRow : OpenClaim := { program := "ytpkaedpgpncgpaa", sum := "43c27e89845dd48876f5d81c3ce30a7d1626be2244c127d18273899fd90ccf9e", func := "canton/cantonlaw14.MountsOne", spec := "mountsOne", inPlace := ["internal/bytealg.IndexByteString", "internal/bytealg.IndexString", "internal/bytealg.abigen_runtime_cmpstring", "slices.overlaps[canton/api.Mount]"], unfollowed := true, recurses := true, named := ["internal/bytealg.MaxLen"], apart := false, narrowed := true }
def MountsOneUptoSaid : Prop := mountsOneUptoRow.holds Try.pinned (OpenSpec.upto mountsOneSpec)

/-- 'cantonlaw14.MountsRoom', WHERE WHAT IT READS IS OF BULK AT MOST 1048576: true; the input reads as it did. -/
def mountsRoomUptoRow : OpenClaim := { program := "ytpkaedpgpncgpaa", sum := "43c27e89845dd48876f5d81c3ce30a7d1626be2244c127d18273899fd90ccf9e", func := "canton/cantonlaw14.MountsRoom", spec := "mountsRoom", inPlace := ["internal/bytealg.IndexByteString", "internal/bytealg.IndexString", "internal/bytealg.abigen_runtime_cmpstring", "slices.overlaps[canton/api.Mount]"], unfollowed := true, recurses := true, named := ["internal/bytealg.MaxLen"], apart := false, narrowed := true }
def MountsRoomUptoSaid : Prop := mountsRoomUptoRow.holds Try.pinned (OpenSpec.upto mountsRoomSpec)

end Rows
end Go.Proofs.Ytpkaedpgpncgpaa
