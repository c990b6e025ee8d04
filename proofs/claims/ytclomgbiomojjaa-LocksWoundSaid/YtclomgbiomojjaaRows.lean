/-
  No cell of these rows narrows 'for every input' (looked for: loops, veiled, ifaces, maps, wideKeys, modest, calm, conditions, laid).
  DERIVED. THE GIVEN ROWS OF THIS SEAT. 5 by the template 'for every input the law returns true; each argument reads behind the call as it read before'; 0 by the template 'total and deterministic' (their statements: YtclomgbiomojjaaTotals.lean).
  GIVEN WITH THE SEED: the statements are not yours to turn. If you find one false, say at which input.
  Laid BY PROGRAM, IN A SANDBOX (cutbox-rows.mjs): the forced cells as the released guide's own fill.sh prints them over the translation 8598fc0d1222d821… (all of the seat's roots in one cut). By AI agents, Wed Nov 11 2026. No macro, syntax, notation, axiom, sorry.
-/
import Derived.Test.YtclomgbiomojjaaChecked
import GoSem.Claim
import GoSem.ClaimJoined
import GoSem.ClaimMapViews
import Derived.JoinedTies
import Derived.KernelRfl
namespace Go.Proofs.Ytclomgbiomojjaa
/- THE CELL 'sum', in the pinned program and in every row, IS THE sha256 OF THE DUMP (.gsa) THAT YtclomgbiomojjaaProg.lean LOADS. Nothing in Lean hashes anything: it is a label: what it is worth is what the hold of that sum in a sandbox is worth. -/
noncomputable def Try.pinned : Pinned := { name := "ytclomgbiomojjaa", sum := "8598fc0d1222d821e63984dcdd693b01c9bc35d774de2106520755656f611b6d", checked := Try.checked }
namespace Rows
def none {H : Type} : Left H := { results := [], args := [] }

/-- 'cantonlaw10.LocksOne': WHATEVER THE INPUT: true; the input reads as it did. -/
def locksOneSpec : ChangeSpec := { name := "locksOne", fn := fun _ => fun
  | [d1, d2, d3, d4] => { results := [.lit (.bool true)], args := [d1, d2, d3, d4] }
  | _ => none }
def locksOneRow : OpenClaim := { program := "ytclomgbiomojjaa", sum := "8598fc0d1222d821e63984dcdd693b01c9bc35d774de2106520755656f611b6d", func := "canton/cantonlaw10.LocksOne", spec := "locksOne", inPlace := ["internal/bytealg.IndexByteString", "internal/bytealg.IndexString", "internal/bytealg.abigen_runtime_cmpstring", "slices.overlaps[canton/api.Hold]"], unfollowed := true, recurses := true, named := ["internal/bytealg.MaxLen"], apart := false }
def LocksOneSaid : Prop := locksOneRow.holds Try.pinned (OpenSpec.ofChange locksOneSpec)

/-- ITS FALSE NEIGHBOUR: 'it returns false'. Refute it at one input. -/
def locksOneWrong : ChangeSpec := { name := "locksOne", fn := fun _ => fun
  | [d1, d2, d3, d4] => { results := [.lit (.bool false)], args := [d1, d2, d3, d4] }
  | _ => none }
def LocksOneWrongFalsely : Prop := locksOneRow.holds Try.pinned (OpenSpec.ofChange locksOneWrong)

/-- 'cantonlaw10.LocksRing': WHATEVER THE INPUT: true; the input reads as it did. -/
def locksRingSpec : ChangeSpec := { name := "locksRing", fn := fun _ => fun
  | [d1, d2, d3, d4, d5, d6] => { results := [.lit (.bool true)], args := [d1, d2, d3, d4, d5, d6] }
  | _ => none }
def locksRingRow : OpenClaim := { program := "ytclomgbiomojjaa", sum := "8598fc0d1222d821e63984dcdd693b01c9bc35d774de2106520755656f611b6d", func := "canton/cantonlaw10.LocksRing", spec := "locksRing", inPlace := ["internal/bytealg.IndexByteString", "internal/bytealg.IndexString", "internal/bytealg.abigen_runtime_cmpstring", "slices.overlaps[canton/api.Hold]"], unfollowed := true, recurses := true, named := ["internal/bytealg.MaxLen"], apart := false }
def LocksRingSaid : Prop := locksRingRow.holds Try.pinned (OpenSpec.ofChange locksRingSpec)

/-- ITS FALSE NEIGHBOUR: 'it returns false'. Refute it at one input. -/
def locksRingWrong : ChangeSpec := { name := "locksRing", fn := fun _ => fun
  | [d1, d2, d3, d4, d5, d6] => { results := [.lit (.bool false)], args := [d1, d2, d3, d4, d5, d6] }
  | _ => none }
def LocksRingWrongFalsely : Prop := locksRingRow.holds Try.pinned (OpenSpec.ofChange locksRingWrong)

/-- 'cantonlaw10.LocksFree': WHATEVER THE INPUT: true; the input reads as it did. -/
def locksFreeSpec : ChangeSpec := { name := "locksFree", fn := fun _ => fun
  | [d1, d2] => { results := [.lit (.bool true)], args := [d1, d2] }
  | _ => none }
def locksFreeRow : OpenClaim := { program := "ytclomgbiomojjaa", sum := "8598fc0d1222d821e63984dcdd693b01c9bc35d774de2106520755656f611b6d", func := "canton/cantonlaw10.LocksFree", spec := "locksFree", inPlace := ["internal/bytealg.IndexByteString", "internal/bytealg.IndexString", "internal/bytealg.abigen_runtime_cmpstring", "slices.overlaps[canton/api.Hold]"], unfollowed := true, recurses := true, named := ["internal/bytealg.MaxLen"], apart := false }
def LocksFreeSaid : Prop := locksFreeRow.holds Try.pinned (OpenSpec.ofChange locksFreeSpec)

/-- ITS FALSE NEIGHBOUR: 'it returns false'. Refute it at one input. -/
def locksFreeWrong : ChangeSpec := { name := "locksFree", fn := fun _ => fun
  | [d1, d2] => { results := [.lit (.bool false)], args := [d1, d2] }
  | _ => none }
def LocksFreeWrongFalsely : Prop := locksFreeRow.holds Try.pinned (OpenSpec.ofChange locksFreeWrong)

/-- 'cantonlaw10.LocksMore': WHATEVER THE INPUT: true; the input reads as it did. -/
def locksMoreSpec : ChangeSpec := { name := "locksMore", fn := fun _ => fun
  | [d1, d2, d3, d4] => { results := [.lit (.bool true)], args := [d1, d2, d3, d4] }
  | _ => none }
def locksMoreRow : OpenClaim := { program := "ytclomgbiomojjaa", sum := "8598fc0d1222d821e63984dcdd693b01c9bc35d774de2106520755656f611b6d", func := "canton/cantonlaw10.LocksMore", spec := "locksMore", inPlace := ["internal/bytealg.IndexByteString", "internal/bytealg.IndexString", "internal/bytealg.abigen_runtime_cmpstring", "slices.overlaps[canton/api.Hold]"], unfollowed := true, recurses := true, named := ["internal/bytealg.MaxLen"], apart := false }
def LocksMoreSaid : Prop := locksMoreRow.holds Try.pinned (OpenSpec.ofChange locksMoreSpec)

/-- ITS FALSE NEIGHBOUR: 'it returns false'. Refute it at one input. -/
def locksMoreWrong : ChangeSpec := { name := "locksMore", fn := fun _ => fun
  | [d1, d2, d3, d4] => { results := [.lit (.bool false)], args := [d1, d2, d3, d4] }
  | _ => none }
def LocksMoreWrongFalsely : Prop := locksMoreRow.holds Try.pinned (OpenSpec.ofChange locksMoreWrong)

/-- 'cantonlaw10.LocksWound': WHATEVER THE INPUT: true; the input reads as it did. -/
def locksWoundSpec : ChangeSpec := { name := "locksWound", fn := fun _ => fun
  | [d1, d2, d3, d4] => { results := [.lit (.bool true)], args := [d1, d2, d3, d4] }
  | _ => none }
def locksWoundRow : OpenClaim := { program := "ytclomgbiomojjaa", sum := "8598fc0d1222d821e63984dcdd693b01c9bc35d774de2106520755656f611b6d", func := "canton/cantonlaw10.LocksWound", spec := "locksWound", inPlace := ["internal/bytealg.IndexByteString", "internal/bytealg.IndexString", "internal/bytealg.abigen_runtime_cmpstring", "slices.overlaps[canton/api.Hold]"], unfollowed := true, recurses := true, named := ["internal/bytealg.MaxLen"], apart := false }
def LocksWoundSaid : Prop := locksWoundRow.holds Try.pinned (OpenSpec.ofChange locksWoundSpec)

/-- ITS FALSE NEIGHBOUR: 'it returns false'. Refute it at one input. -/
def locksWoundWrong : ChangeSpec := { name := "locksWound", fn := fun _ => fun
  | [d1, d2, d3, d4] => { results := [.lit (.bool false)], args := [d1, d2, d3, d4] }
  | _ => none }
def LocksWoundWrongFalsely : Prop := locksWoundRow.holds Try.pinned (OpenSpec.ofChange locksWoundWrong)

/- THE SECOND FORM. 'bulk': how many values and letters a reading holds, each counted each time it is reached (what is shared counts as often as it is met; a slice's spare places count too). A statement '..UptoSaid' is the law's where the arguments, and the package variables that the reading takes, are together of bulk at most 1048576: NARROWER than '..Said'. Prove '..Said' where nothing that the law and all that it calls make is longer than what came in: it says more and counts as full. Else prove '..UptoSaid'. A law counts once. -/
mutual
def uptoBulk {H : Type} : DataW H → Nat
  | .lit (.string bytes) => bytes.length + 1
  | .lit _ => 1
  | .nil => 1
  | .ptr d => uptoBulk d + 1
  | .slice elems spare => uptoBulkAll elems + uptoBulkAll spare + 1
  | .agg parts => uptoBulkAll parts + 1
  | .iface _ d => uptoBulk d + 1
  | .map entries => uptoBulkEntries entries + 1
  | .held _ => 1
def uptoBulkAll {H : Type} : List (DataW H) → Nat
  | [] => 0
  | d :: r => uptoBulk d + uptoBulkAll r
def uptoBulkEntries {H : Type} : List (Lit × DataW H) → Nat
  | [] => 0
  | x :: r => uptoBulkEntry x + uptoBulkEntries r
def uptoBulkEntry {H : Type} : Lit × DataW H → Nat
  | (.string bytes, d) => bytes.length + uptoBulk d + 1
  | (_, d) => uptoBulk d + 1
 end
def uptoSmall : (H : Type) → List (DataW H) → Bool := fun _ ds => decide (uptoBulkAll ds ≤ 1048576)
def OpenSpec.upto (s : _root_.Go.ChangeSpec) : _root_.Go.OpenSpec := { _root_.Go.OpenSpec.ofChange s with cond := some uptoSmall }

/-- 'cantonlaw10.LocksOne', WHERE WHAT IT READS IS OF BULK AT MOST 1048576: true; the input reads as it did. -/
def locksOneUptoRow : OpenClaim := { program := "ytclomgbiomojjaa", sum := "8598fc0d1222d821e63984dcdd693b01c9bc35d774de2106520755656f611b6d", func := "canton/cantonlaw10.LocksOne", spec := "locksOne", inPlace := ["internal/bytealg.IndexByteString", "internal/bytealg.IndexString", "internal/bytealg.abigen_runtime_cmpstring", "slices.overlaps[canton/api.Hold]"], unfollowed := true, recurses := true, named := ["internal/bytealg.MaxLen"], apart := false, narrowed := true }
def LocksOneUptoSaid : Prop := locksOneUptoRow.holds Try.pinned (OpenSpec.upto locksOneSpec)

/-- 'cantonlaw10.LocksRing', WHERE WHAT IT READS IS OF BULK AT MOST 1048576: true; the input reads as it did. -/
def locksRingUptoRow : OpenClaim := { program := "ytclomgbiomojjaa", sum := "8598fc0d1222d821e63984dcdd693b01c9bc35d774de2106520755656f611b6d", func := "canton/cantonlaw10.LocksRing", spec := "locksRing", inPlace := ["internal/bytealg.IndexByteString", "internal/bytealg.IndexString", "internal/bytealg.abigen_runtime_cmpstring", "slices.overlaps[canton/api.Hold]"], unfollowed := true, recurses := true, named := ["internal/bytealg.MaxLen"], apart := false, narrowed := true }
def LocksRingUptoSaid : Prop := locksRingUptoRow.holds Try.pinned (OpenSpec.upto locksRingSpec)

/-- 'cantonlaw10.LocksFree', WHERE WHAT IT READS IS OF BULK AT MOST 1048576: true; the input reads as it did. -/
def locksFreeUptoRow : OpenClaim := { program := "ytclomgbiomojjaa", sum := "8598fc0d1222d821e63984dcdd693b01c9bc35d774de2106520755656f611b6d", func := "canton/cantonlaw10.LocksFree", spec := "locksFree", inPlace := ["internal/bytealg.IndexByteString", "internal/bytealg.IndexString", "internal/bytealg.abigen_runtime_cmpstring", "slices.overlaps[canton/api.Hold]"], unfollowed := true, recurses := true, named := ["internal/bytealg.MaxLen"], apart := false, narrowed := true }
def LocksFreeUptoSaid : Prop := locksFreeUptoRow.holds Try.pinned (OpenSpec.upto locksFreeSpec)

/-- 'cantonlaw10.LocksMore', WHERE WHAT IT READS IS OF BULK AT MOST 1048576: true; the input reads as it did. -/
def locksMoreUptoRow : OpenClaim := { program := "ytclomgbiomojjaa", sum := "8598fc0d1222d821e63984dcdd693b01c9bc35d774de2106520755656f611b6d", func := "canton/cantonlaw10.LocksMore", spec := "locksMore", inPlace := ["internal/bytealg.IndexByteString", "internal/bytealg.IndexString", "internal/bytealg.abigen_runtime_cmpstring", "slices.overlaps[canton/api.Hold]"], unfollowed := true, recurses := true, named := ["internal/bytealg.MaxLen"], apart := false, narrowed := true }
def LocksMoreUptoSaid : Prop := locksMoreUptoRow.holds Try.pinned (OpenSpec.upto locksMoreSpec)

/-- 'cantonlaw10.LocksWound', WHERE WHAT IT READS IS OF BULK AT MOST 1048576: true; the input reads as it did. -/
def locksWoundUptoRow : OpenClaim := { program := "ytclomgbiomojjaa", sum := "8598fc0d1222d821e63984dcdd693b01c9bc35d774de2106520755656f611b6d", func := "canton/cantonlaw10.LocksWound", spec := "locksWound", inPlace := ["internal/bytealg.IndexByteString", "internal/bytealg.IndexString", "internal/bytealg.abigen_runtime_cmpstring", "slices.overlaps[canton/api.Hold]"], unfollowed := true, recurses := true, named := ["internal/bytealg.MaxLen"], apart := false, narrowed := true }
def LocksWoundUptoSaid : Prop := locksWoundUptoRow.holds Try.pinned (OpenSpec.upto locksWoundSpec)

end Rows
end Go.Proofs.Ytclomgbiomojjaa
