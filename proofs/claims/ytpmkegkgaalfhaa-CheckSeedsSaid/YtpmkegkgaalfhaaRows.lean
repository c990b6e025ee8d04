/-
  No cell of these rows narrows 'for every input' (looked for: loops, veiled, ifaces, maps, wideKeys, modest, calm, conditions, laid).
  DERIVED. THE GIVEN ROWS OF THIS SEAT. 6 by the template 'for every input the law returns true; each argument reads behind the call as it read before'; 0 by the template 'total and deterministic' (their statements: YtpmkegkgaalfhaaTotals.lean).
  GIVEN WITH THE SEED: the statements are not yours to turn. If you find one false, say at which input.
  Laid BY PROGRAM, IN A SANDBOX (cutbox-rows.mjs): the forced cells as the released guide's own fill.sh prints them over the translation c7b42cf9fe399218… (all of the seat's roots in one cut). By AI agents, Wed Nov 11 2026. No macro, syntax, notation, axiom, sorry.
-/
import Derived.Test.YtpmkegkgaalfhaaChecked
import GoSem.Claim
import GoSem.ClaimJoined
import GoSem.ClaimMapViews
import Derived.JoinedTies
import Derived.KernelRfl
namespace Go.Proofs.Ytpmkegkgaalfhaa
/- THE CELL 'sum', in the pinned program and in every row, IS THE sha256 OF THE DUMP (.gsa) THAT YtpmkegkgaalfhaaProg.lean LOADS. Nothing in Lean hashes anything: it is a label: what it is worth is what the hold of that sum in a sandbox is worth. -/
noncomputable def Try.pinned : Pinned := { name := "ytpmkegkgaalfhaa", sum := "c7b42cf9fe39921850b4a4fa8851b58c16c6a1c288183719fc6453c27379a50e", checked := Try.checked }
namespace Rows
def none {H : Type} : Left H := { results := [], args := [] }

/-- 'cantonlaw04.CheckTells': WHATEVER THE INPUT: true; the input reads as it did. -/
def checkTellsSpec : ChangeSpec := { name := "checkTells", fn := fun _ => fun
  | [d1, d2, d3, d4, d5, d6] => { results := [.lit (.bool true)], args := [d1, d2, d3, d4, d5, d6] }
  | _ => none }
def checkTellsRow : OpenClaim := { program := "ytpmkegkgaalfhaa", sum := "c7b42cf9fe39921850b4a4fa8851b58c16c6a1c288183719fc6453c27379a50e", func := "canton/cantonlaw04.CheckTells", spec := "checkTells", apart := false }
def CheckTellsSaid : Prop := checkTellsRow.holds Try.pinned (OpenSpec.ofChange checkTellsSpec)

/-- ITS FALSE NEIGHBOUR: 'it returns false'. Refute it at one input. -/
def checkTellsWrong : ChangeSpec := { name := "checkTells", fn := fun _ => fun
  | [d1, d2, d3, d4, d5, d6] => { results := [.lit (.bool false)], args := [d1, d2, d3, d4, d5, d6] }
  | _ => none }
def CheckTellsWrongFalsely : Prop := checkTellsRow.holds Try.pinned (OpenSpec.ofChange checkTellsWrong)

/-- 'cantonlaw04.CheckChanged': WHATEVER THE INPUT: true; the input reads as it did. -/
def checkChangedSpec : ChangeSpec := { name := "checkChanged", fn := fun _ => fun
  | [d1, d2, d3, d4] => { results := [.lit (.bool true)], args := [d1, d2, d3, d4] }
  | _ => none }
def checkChangedRow : OpenClaim := { program := "ytpmkegkgaalfhaa", sum := "c7b42cf9fe39921850b4a4fa8851b58c16c6a1c288183719fc6453c27379a50e", func := "canton/cantonlaw04.CheckChanged", spec := "checkChanged", apart := false }
def CheckChangedSaid : Prop := checkChangedRow.holds Try.pinned (OpenSpec.ofChange checkChangedSpec)

/-- ITS FALSE NEIGHBOUR: 'it returns false'. Refute it at one input. -/
def checkChangedWrong : ChangeSpec := { name := "checkChanged", fn := fun _ => fun
  | [d1, d2, d3, d4] => { results := [.lit (.bool false)], args := [d1, d2, d3, d4] }
  | _ => none }
def CheckChangedWrongFalsely : Prop := checkChangedRow.holds Try.pinned (OpenSpec.ofChange checkChangedWrong)

/-- 'cantonlaw04.CheckZeros': WHATEVER THE INPUT: true; the input reads as it did. -/
def checkZerosSpec : ChangeSpec := { name := "checkZeros", fn := fun _ => fun
  | [d1, d2, d3] => { results := [.lit (.bool true)], args := [d1, d2, d3] }
  | _ => none }
def checkZerosRow : OpenClaim := { program := "ytpmkegkgaalfhaa", sum := "c7b42cf9fe39921850b4a4fa8851b58c16c6a1c288183719fc6453c27379a50e", func := "canton/cantonlaw04.CheckZeros", spec := "checkZeros", apart := false }
def CheckZerosSaid : Prop := checkZerosRow.holds Try.pinned (OpenSpec.ofChange checkZerosSpec)

/-- ITS FALSE NEIGHBOUR: 'it returns false'. Refute it at one input. -/
def checkZerosWrong : ChangeSpec := { name := "checkZeros", fn := fun _ => fun
  | [d1, d2, d3] => { results := [.lit (.bool false)], args := [d1, d2, d3] }
  | _ => none }
def CheckZerosWrongFalsely : Prop := checkZerosRow.holds Try.pinned (OpenSpec.ofChange checkZerosWrong)

/-- 'cantonlaw04.CheckNewer': WHATEVER THE INPUT: true; the input reads as it did. -/
def checkNewerSpec : ChangeSpec := { name := "checkNewer", fn := fun _ => fun
  | [d1, d2, d3, d4, d5, d6] => { results := [.lit (.bool true)], args := [d1, d2, d3, d4, d5, d6] }
  | _ => none }
def checkNewerRow : OpenClaim := { program := "ytpmkegkgaalfhaa", sum := "c7b42cf9fe39921850b4a4fa8851b58c16c6a1c288183719fc6453c27379a50e", func := "canton/cantonlaw04.CheckNewer", spec := "checkNewer", apart := false }
def CheckNewerSaid : Prop := checkNewerRow.holds Try.pinned (OpenSpec.ofChange checkNewerSpec)

/-- ITS FALSE NEIGHBOUR: 'it returns false'. Refute it at one input. -/
def checkNewerWrong : ChangeSpec := { name := "checkNewer", fn := fun _ => fun
  | [d1, d2, d3, d4, d5, d6] => { results := [.lit (.bool false)], args := [d1, d2, d3, d4, d5, d6] }
  | _ => none }
def CheckNewerWrongFalsely : Prop := checkNewerRow.holds Try.pinned (OpenSpec.ofChange checkNewerWrong)

/-- 'cantonlaw04.CheckSeeds': WHATEVER THE INPUT: true; the input reads as it did. -/
def checkSeedsSpec : ChangeSpec := { name := "checkSeeds", fn := fun _ => fun
  | [d1, d2, d3, d4] => { results := [.lit (.bool true)], args := [d1, d2, d3, d4] }
  | _ => none }
def checkSeedsRow : OpenClaim := { program := "ytpmkegkgaalfhaa", sum := "c7b42cf9fe39921850b4a4fa8851b58c16c6a1c288183719fc6453c27379a50e", func := "canton/cantonlaw04.CheckSeeds", spec := "checkSeeds", apart := false }
def CheckSeedsSaid : Prop := checkSeedsRow.holds Try.pinned (OpenSpec.ofChange checkSeedsSpec)

/-- ITS FALSE NEIGHBOUR: 'it returns false'. Refute it at one input. -/
def checkSeedsWrong : ChangeSpec := { name := "checkSeeds", fn := fun _ => fun
  | [d1, d2, d3, d4] => { results := [.lit (.bool false)], args := [d1, d2, d3, d4] }
  | _ => none }
def CheckSeedsWrongFalsely : Prop := checkSeedsRow.holds Try.pinned (OpenSpec.ofChange checkSeedsWrong)

/-- 'cantonlaw04.CheckOrder': WHATEVER THE INPUT: true; the input reads as it did. -/
def checkOrderSpec : ChangeSpec := { name := "checkOrder", fn := fun _ => fun
  | [d1, d2, d3, d4] => { results := [.lit (.bool true)], args := [d1, d2, d3, d4] }
  | _ => none }
def checkOrderRow : OpenClaim := { program := "ytpmkegkgaalfhaa", sum := "c7b42cf9fe39921850b4a4fa8851b58c16c6a1c288183719fc6453c27379a50e", func := "canton/cantonlaw04.CheckOrder", spec := "checkOrder", apart := false }
def CheckOrderSaid : Prop := checkOrderRow.holds Try.pinned (OpenSpec.ofChange checkOrderSpec)

/-- ITS FALSE NEIGHBOUR: 'it returns false'. Refute it at one input. -/
def checkOrderWrong : ChangeSpec := { name := "checkOrder", fn := fun _ => fun
  | [d1, d2, d3, d4] => { results := [.lit (.bool false)], args := [d1, d2, d3, d4] }
  | _ => none }
def CheckOrderWrongFalsely : Prop := checkOrderRow.holds Try.pinned (OpenSpec.ofChange checkOrderWrong)

/- THE SECOND FORM. 'bulk': how many values and letters a reading holds, each counted each time it is reached (what is shared counts as often as it is met; a slice's spare places count too). A statement '..UptoSaid' is the law's where the arguments, and the package variables that the reading takes, are together of bulk at most 1048576: NARROWER than '..Said'. Prove '..Said' where nothing that the law and all that it calls make is longer than what came in: it says more and counts as full. Else prove '..UptoSaid'. A law counts once. -/
mutual
def uptoBulk {H : Type} : DataW H → Nat
  | .lit (.string bytes) => bytes.length + 1
  | .lit _ => 1
  | .nil => 1
  | .ptr d => uptoBulk d + 1
  | .slice elems spare => uptoBulkAll elems + uptoBulkAll spare + 1
  | .agg parts => uptoBulkAll parts + 1
  | .iface _ d => uptoBulk d + 1
  | .map entries => uptoBulkEntries entries + 1
  | .held _ => 1
def uptoBulkAll {H : Type} : List (DataW H) → Nat
  | [] => 0
  | d :: r => uptoBulk d + uptoBulkAll r
def uptoBulkEntries {H : Type} : List (Lit × DataW H) → Nat
  | [] => 0
  | x :: r => uptoBulkEntry x + uptoBulkEntries r
def uptoBulkEntry {H : Type} : Lit × DataW H → Nat
  | (.string bytes, d) => bytes.length + uptoBulk d + 1
  | (_, d) => uptoBulk d + 1
 end
def uptoSmall : (H : Type) → List (DataW H) → Bool := fun _ ds => decide (uptoBulkAll ds ≤ 1048576)
def OpenSpec.upto (s : _root_.Go.ChangeSpec) : _root_.Go.OpenSpec := { _root_.Go.OpenSpec.ofChange s with cond := some uptoSmall }

/-- 'cantonlaw04.CheckTells', WHERE WHAT IT READS IS OF BULK AT MOST 1048576: true; the input reads as it did. -/
def checkTellsUptoRow : OpenClaim := { program := "ytpmkegkgaalfhaa", sum := "c7b42cf9fe39921850b4a4fa8851b58c16c6a1c288183719fc6453c27379a50e", func := "canton/cantonlaw04.CheckTells", spec := "checkTells", apart := false, narrowed := true }
def CheckTellsUptoSaid : Prop := checkTellsUptoRow.holds Try.pinned (OpenSpec.upto checkTellsSpec)

/-- 'cantonlaw04.CheckChanged', WHERE WHAT IT READS IS OF BULK AT MOST 1048576: true; the input reads as it did. -/
def checkChangedUptoRow : OpenClaim := { program := "ytpmkegkgaalfhaa", sum := "c7b42cf9fe39921850b4a4fa8851b58c16c6a1c288183719fc6453c27379a50e", func := "canton/cantonlaw04.CheckChanged", spec := "checkChanged", apart := false, narrowed := true }
def CheckChangedUptoSaid : Prop := checkChangedUptoRow.holds Try.pinned (OpenSpec.upto checkChangedSpec)

/-- 'cantonlaw04.CheckZeros', WHERE WHAT IT READS IS OF BULK AT MOST 1048576: true; the input reads as it did. -/
def checkZerosUptoRow : OpenClaim := { program := "ytpmkegkgaalfhaa", sum := "c7b42cf9fe39921850b4a4fa8851b58c16c6a1c288183719fc6453c27379a50e", func := "canton/cantonlaw04.CheckZeros", spec := "checkZeros", apart := false, narrowed := true }
def CheckZerosUptoSaid : Prop := checkZerosUptoRow.holds Try.pinned (OpenSpec.upto checkZerosSpec)

/-- 'cantonlaw04.CheckNewer', WHERE WHAT IT READS IS OF BULK AT MOST 1048576: true; the input reads as it did. -/
def checkNewerUptoRow : OpenClaim := { program := "ytpmkegkgaalfhaa", sum := "c7b42cf9fe39921850b4a4fa8851b58c16c6a1c288183719fc6453c27379a50e", func := "canton/cantonlaw04.CheckNewer", spec := "checkNewer", apart := false, narrowed := true }
def CheckNewerUptoSaid : Prop := checkNewerUptoRow.holds Try.pinned (OpenSpec.upto checkNewerSpec)

/-- 'cantonlaw04.CheckSeeds', WHERE WHAT IT READS IS OF BULK AT MOST 1048576: true; the input reads as it did. -/
def checkSeedsUptoRow : OpenClaim := { program := "ytpmkegkgaalfhaa", sum := "c7b42cf9fe39921850b4a4fa8851b58c16c6a1c288183719fc6453c27379a50e", func := "canton/cantonlaw04.CheckSeeds", spec := "checkSeeds", apart := false, narrowed := true }
def CheckSeedsUptoSaid : Prop := checkSeedsUptoRow.holds Try.pinned (OpenSpec.upto checkSeedsSpec)

/-- 'cantonlaw04.CheckOrder', WHERE WHAT IT READS IS OF BULK AT MOST 1048576: true; the input reads as it did. -/
def checkOrderUptoRow : OpenClaim := { program := "ytpmkegkgaalfhaa", sum := "c7b42cf9fe39921850b4a4fa8851b58c16c6a1c288183719fc6453c27379a50e", func := "canton/cantonlaw04.CheckOrder", spec := "checkOrder", apart := false, narrowed := true }
def CheckOrderUptoSaid : Prop := checkOrderUptoRow.holds Try.pinned (OpenSpec.upto checkOrderSpec)

end Rows
end Go.Proofs.Ytpmkegkgaalfhaa
