/-
  No cell of these rows narrows 'for every input' (looked for: loops, veiled, ifaces, maps, wideKeys, modest, calm, conditions, laid).
  DERIVED. THE GIVEN ROWS OF THIS SEAT. 6 by the template 'for every input the law returns true; each argument reads behind the call as it read before'; 0 by the template 'total and deterministic' (their statements: YtpchobikpamfcaaTotals.lean).
  GIVEN WITH THE SEED: the statements are not yours to turn. If you find one false, say at which input.
  Laid BY PROGRAM, IN A SANDBOX (cutbox-rows.mjs): the forced cells as the released guide's own fill.sh prints them over the translation 3f288ff04887100c… (all of the seat's roots in one cut). By AI agents, Wed Nov 11 2026. No macro, syntax, notation, axiom, sorry.
-/
import Derived.Test.YtpchobikpamfcaaChecked
import GoSem.Claim
import GoSem.ClaimJoined
import GoSem.ClaimMapViews
import Derived.JoinedTies
import Derived.KernelRfl
namespace Go.Proofs.Ytpchobikpamfcaa
/- THE CELL 'sum', in the pinned program and in every row, IS THE sha256 OF THE DUMP (.gsa) THAT YtpchobikpamfcaaProg.lean LOADS. Nothing in Lean hashes anything: it is a label: what it is worth is what the hold of that sum in a sandbox is worth. -/
noncomputable def Try.pinned : Pinned := { name := "ytpchobikpamfcaa", sum := "3f288ff04887100cb494cf73ce5cfbeb0e688db34da6911ad8f6404b574841e4", checked := Try.checked }
namespace Rows
def none {H : Type} : Left H := { results := [], args := [] }

/-- 'cantonlaw03.SectorStays': WHATEVER THE INPUT: true; the input reads as it did. -/
def sectorStaysSpec : ChangeSpec := { name := "sectorStays", fn := fun _ => fun
  | [d1, d2, d3] => { results := [.lit (.bool true)], args := [d1, d2, d3] }
  | _ => none }
def sectorStaysRow : OpenClaim := { program := "ytpchobikpamfcaa", sum := "3f288ff04887100cb494cf73ce5cfbeb0e688db34da6911ad8f6404b574841e4", func := "canton/cantonlaw03.SectorStays", spec := "sectorStays", unfollowed := true, recurses := true, apart := false }
def SectorStaysSaid : Prop := sectorStaysRow.holds Try.pinned (OpenSpec.ofChange sectorStaysSpec)

/-- ITS FALSE NEIGHBOUR: 'it returns false'. Refute it at one input. -/
def sectorStaysWrong : ChangeSpec := { name := "sectorStays", fn := fun _ => fun
  | [d1, d2, d3] => { results := [.lit (.bool false)], args := [d1, d2, d3] }
  | _ => none }
def SectorStaysWrongFalsely : Prop := sectorStaysRow.holds Try.pinned (OpenSpec.ofChange sectorStaysWrong)

/-- 'cantonlaw03.SectorReads': WHATEVER THE INPUT: true; the input reads as it did. -/
def sectorReadsSpec : ChangeSpec := { name := "sectorReads", fn := fun _ => fun
  | [d1, d2, d3] => { results := [.lit (.bool true)], args := [d1, d2, d3] }
  | _ => none }
def sectorReadsRow : OpenClaim := { program := "ytpchobikpamfcaa", sum := "3f288ff04887100cb494cf73ce5cfbeb0e688db34da6911ad8f6404b574841e4", func := "canton/cantonlaw03.SectorReads", spec := "sectorReads", unfollowed := true, recurses := true, apart := false }
def SectorReadsSaid : Prop := sectorReadsRow.holds Try.pinned (OpenSpec.ofChange sectorReadsSpec)

/-- ITS FALSE NEIGHBOUR: 'it returns false'. Refute it at one input. -/
def sectorReadsWrong : ChangeSpec := { name := "sectorReads", fn := fun _ => fun
  | [d1, d2, d3] => { results := [.lit (.bool false)], args := [d1, d2, d3] }
  | _ => none }
def SectorReadsWrongFalsely : Prop := sectorReadsRow.holds Try.pinned (OpenSpec.ofChange sectorReadsWrong)

/-- 'cantonlaw03.SectorNew': WHATEVER THE INPUT: true; the input reads as it did. -/
def sectorNewSpec : ChangeSpec := { name := "sectorNew", fn := fun _ => fun
  | [d] => { results := [.lit (.bool true)], args := [d] }
  | _ => none }
def sectorNewRow : OpenClaim := { program := "ytpchobikpamfcaa", sum := "3f288ff04887100cb494cf73ce5cfbeb0e688db34da6911ad8f6404b574841e4", func := "canton/cantonlaw03.SectorNew", spec := "sectorNew", unfollowed := true, recurses := true, apart := false }
def SectorNewSaid : Prop := sectorNewRow.holds Try.pinned (OpenSpec.ofChange sectorNewSpec)

/-- ITS FALSE NEIGHBOUR: 'it returns false'. Refute it at one input. -/
def sectorNewWrong : ChangeSpec := { name := "sectorNew", fn := fun _ => fun
  | [d] => { results := [.lit (.bool false)], args := [d] }
  | _ => none }
def SectorNewWrongFalsely : Prop := sectorNewRow.holds Try.pinned (OpenSpec.ofChange sectorNewWrong)

/-- 'cantonlaw03.SectorSynced': WHATEVER THE INPUT: true; the input reads as it did. -/
def sectorSyncedSpec : ChangeSpec := { name := "sectorSynced", fn := fun _ => fun
  | [d1, d2, d3, d4, d5] => { results := [.lit (.bool true)], args := [d1, d2, d3, d4, d5] }
  | _ => none }
def sectorSyncedRow : OpenClaim := { program := "ytpchobikpamfcaa", sum := "3f288ff04887100cb494cf73ce5cfbeb0e688db34da6911ad8f6404b574841e4", func := "canton/cantonlaw03.SectorSynced", spec := "sectorSynced", unfollowed := true, recurses := true, apart := false }
def SectorSyncedSaid : Prop := sectorSyncedRow.holds Try.pinned (OpenSpec.ofChange sectorSyncedSpec)

/-- ITS FALSE NEIGHBOUR: 'it returns false'. Refute it at one input. -/
def sectorSyncedWrong : ChangeSpec := { name := "sectorSynced", fn := fun _ => fun
  | [d1, d2, d3, d4, d5] => { results := [.lit (.bool false)], args := [d1, d2, d3, d4, d5] }
  | _ => none }
def SectorSyncedWrongFalsely : Prop := sectorSyncedRow.holds Try.pinned (OpenSpec.ofChange sectorSyncedWrong)

/-- 'cantonlaw03.SectorFuse': WHATEVER THE INPUT: true; the input reads as it did. -/
def sectorFuseSpec : ChangeSpec := { name := "sectorFuse", fn := fun _ => fun
  | [d1, d2, d3] => { results := [.lit (.bool true)], args := [d1, d2, d3] }
  | _ => none }
def sectorFuseRow : OpenClaim := { program := "ytpchobikpamfcaa", sum := "3f288ff04887100cb494cf73ce5cfbeb0e688db34da6911ad8f6404b574841e4", func := "canton/cantonlaw03.SectorFuse", spec := "sectorFuse", unfollowed := true, recurses := true, apart := false }
def SectorFuseSaid : Prop := sectorFuseRow.holds Try.pinned (OpenSpec.ofChange sectorFuseSpec)

/-- ITS FALSE NEIGHBOUR: 'it returns false'. Refute it at one input. -/
def sectorFuseWrong : ChangeSpec := { name := "sectorFuse", fn := fun _ => fun
  | [d1, d2, d3] => { results := [.lit (.bool false)], args := [d1, d2, d3] }
  | _ => none }
def SectorFuseWrongFalsely : Prop := sectorFuseRow.holds Try.pinned (OpenSpec.ofChange sectorFuseWrong)

/-- 'cantonlaw03.SectorPlays': WHATEVER THE INPUT: true; the input reads as it did. -/
def sectorPlaysSpec : ChangeSpec := { name := "sectorPlays", fn := fun _ => fun
  | [d1, d2] => { results := [.lit (.bool true)], args := [d1, d2] }
  | _ => none }
def sectorPlaysRow : OpenClaim := { program := "ytpchobikpamfcaa", sum := "3f288ff04887100cb494cf73ce5cfbeb0e688db34da6911ad8f6404b574841e4", func := "canton/cantonlaw03.SectorPlays", spec := "sectorPlays", unfollowed := true, recurses := true, apart := false }
def SectorPlaysSaid : Prop := sectorPlaysRow.holds Try.pinned (OpenSpec.ofChange sectorPlaysSpec)

/-- ITS FALSE NEIGHBOUR: 'it returns false'. Refute it at one input. -/
def sectorPlaysWrong : ChangeSpec := { name := "sectorPlays", fn := fun _ => fun
  | [d1, d2] => { results := [.lit (.bool false)], args := [d1, d2] }
  | _ => none }
def SectorPlaysWrongFalsely : Prop := sectorPlaysRow.holds Try.pinned (OpenSpec.ofChange sectorPlaysWrong)

/- THE SECOND FORM. 'bulk': how many values and letters a reading holds, each counted each time it is reached (what is shared counts as often as it is met; a slice's spare places count too). A statement '..UptoSaid' is the law's where the arguments, and the package variables that the reading takes, are together of bulk at most 1048576: NARROWER than '..Said'. Prove '..Said' where nothing that the law and all that it calls make is longer than what came in: it says more and counts as full. Else prove '..UptoSaid'. A law counts once. -/
mutual
def uptoBulk {H : Type} : DataW H → Nat
  | .lit (.string bytes) => bytes.length + 1
  | .lit _ => 1
  | .nil => 1
  | .ptr d => uptoBulk d + 1
  | .slice elems spare => uptoBulkAll elems + uptoBulkAll spare + 1
  | .agg parts => uptoBulkAll parts + 1
  | .iface _ d => uptoBulk d + 1
  | .map entries => uptoBulkEntries entries + 1
  | .held _ => 1
def uptoBulkAll {H : Type} : List (DataW H) → Nat
  | [] => 0
  | d :: r => uptoBulk d + uptoBulkAll r
def uptoBulkEntries {H : Type} : List (Lit × DataW H) → Nat
  | [] => 0
  | x :: r => uptoBulkEntry x + uptoBulkEntries r
def uptoBulkEntry {H : Type} : Lit × DataW H → Nat
  | (.string bytes, d) => bytes.length + uptoBulk d + 1
  | (_, d) => uptoBulk d + 1
 end
def uptoSmall : (H : Type) → List (DataW H) → Bool := fun _ ds => decide (uptoBulkAll ds ≤ 1048576)
def OpenSpec.upto (s : _root_.Go.ChangeSpec) : _root_.Go.OpenSpec := { _root_.Go.OpenSpec.ofChange s with cond := some uptoSmall }

/-- 'cantonlaw03.SectorStays', WHERE WHAT IT READS IS OF BULK AT MOST 1048576: true; the input reads as it did. -/
def sectorStaysUptoRow : OpenClaim := { program := "ytpchobikpamfcaa", sum := "3f288ff04887100cb494cf73ce5cfbeb0e688db34da6911ad8f6404b574841e4", func := "canton/cantonlaw03.SectorStays", spec := "sectorStays", unfollowed := true, recurses := true, apart := false, narrowed := true }
def SectorStaysUptoSaid : Prop := sectorStaysUptoRow.holds Try.pinned (OpenSpec.upto sectorStaysSpec)

/-- 'cantonlaw03.SectorReads', WHERE WHAT IT READS IS OF BULK AT MOST 1048576: true; the input reads as it did. -/
def sectorReadsUptoRow : OpenClaim := { program := "ytpchobikpamfcaa", sum := "3f288ff04887100cb494cf73ce5cfbeb0e688db34da6911ad8f6404b574841e4", func := "canton/cantonlaw03.SectorReads", spec := "sectorReads", unfollowed := true, recurses := true, apart := false, narrowed := true }
def SectorReadsUptoSaid : Prop := sectorReadsUptoRow.holds Try.pinned (OpenSpec.upto sectorReadsSpec)

/-- 'cantonlaw03.SectorNew', WHERE WHAT IT READS IS OF BULK AT MOST 1048576: true; the input reads as it did. -/
def sectorNewUptoRow : OpenClaim := { program := "ytpchobikpamfcaa", sum := "3f288ff04887100cb494cf73ce5cfbeb0e688db34da6911ad8f6404b574841e4", func := "canton/cantonlaw03.SectorNew", spec := "sectorNew", unfollowed := true, recurses := true, apart := false, narrowed := true }
def SectorNewUptoSaid : Prop := sectorNewUptoRow.holds Try.pinned (OpenSpec.upto sectorNewSpec)

/-- 'cantonlaw03.SectorSynced', WHERE WHAT IT READS IS OF BULK AT MOST 1048576: true; the input reads as it did. -/
def sectorSyncedUptoRow : OpenClaim := { program := "ytpchobikpamfcaa", sum := "3f288ff04887100cb494cf73ce5cfbeb0e688db34da6911ad8f6404b574841e4", func := "canton/cantonlaw03.SectorSynced", spec := "sectorSynced", unfollowed := true, recurses := true, apart := false, narrowed := true }
def SectorSyncedUptoSaid : Prop := sectorSyncedUptoRow.holds Try.pinned (OpenSpec.upto sectorSyncedSpec)

/-- 'cantonlaw03.SectorFuse', WHERE WHAT IT READS IS OF BULK AT MOST 1048576: true; the input reads as it did. -/
def sectorFuseUptoRow : OpenClaim := { program := "ytpchobikpamfcaa", sum := "3f288ff04887100cb494cf73ce5cfbeb0e688db34da6911ad8f6404b574841e4", func := "canton/cantonlaw03.SectorFuse", spec := "sectorFuse", unfollowed := true, recurses := true, apart := false, narrowed := true }
def SectorFuseUptoSaid : Prop := sectorFuseUptoRow.holds Try.pinned (OpenSpec.upto sectorFuseSpec)

/-- 'cantonlaw03.SectorPlays', WHERE WHAT IT READS IS OF BULK AT MOST 1048576: true; the input reads as it did. -/
def sectorPlaysUptoRow : OpenClaim := { program := "ytpchobikpamfcaa", sum := "3f288ff04887100cb494cf73ce5cfbeb0e688db34da6911ad8f6404b574841e4", func := "canton/cantonlaw03.SectorPlays", spec := "sectorPlays", unfollowed := true, recurses := true, apart := false, narrowed := true }
def SectorPlaysUptoSaid : Prop := sectorPlaysUptoRow.holds Try.pinned (OpenSpec.upto sectorPlaysSpec)

end Rows
end Go.Proofs.Ytpchobikpamfcaa
