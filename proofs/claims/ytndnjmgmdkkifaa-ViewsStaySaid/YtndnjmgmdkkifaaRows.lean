/-
  No cell of these rows narrows 'for every input' (looked for: loops, veiled, ifaces, maps, wideKeys, modest, calm, conditions, laid).
  DERIVED. THE GIVEN ROWS OF THIS SEAT. 7 by the template 'for every input the law returns true; each argument reads behind the call as it read before'; 0 by the template 'total and deterministic' (their statements: YtndnjmgmdkkifaaTotals.lean).
  GIVEN WITH THE SEED: the statements are not yours to turn. If you find one false, say at which input.
  Laid BY PROGRAM, IN A SANDBOX (cutbox-rows.mjs): the forced cells as the released guide's own fill.sh prints them over the translation a84d1264c445152a… (all of the seat's roots in one cut). By AI agents, Wed Nov 11 2026. No macro, syntax, notation, axiom, sorry.
-/
import Derived.Test.YtndnjmgmdkkifaaChecked
import GoSem.Claim
import GoSem.ClaimJoined
import GoSem.ClaimMapViews
import Derived.JoinedTies
import Derived.KernelRfl
namespace Go.Proofs.Ytndnjmgmdkkifaa
/- THE CELL 'sum', in the pinned program and in every row, IS THE sha256 OF THE DUMP (.gsa) THAT YtndnjmgmdkkifaaProg.lean LOADS. Nothing in Lean hashes anything: it is a label: what it is worth is what the hold of that sum in a sandbox is worth. -/
noncomputable def Try.pinned : Pinned := { name := "ytndnjmgmdkkifaa", sum := "a84d1264c445152a29ce0d08806aa9c88d693f99493ccc97f725c2f59fb03684", checked := Try.checked }
namespace Rows
def none {H : Type} : Left H := { results := [], args := [] }

/-- 'cantonlaw16.ViewsPlay': WHATEVER THE INPUT: true; the input reads as it did. -/
def viewsPlaySpec : ChangeSpec := { name := "viewsPlay", fn := fun _ => fun
  | [d1, d2, d3, d4] => { results := [.lit (.bool true)], args := [d1, d2, d3, d4] }
  | _ => none }
def viewsPlayRow : OpenClaim := { program := "ytndnjmgmdkkifaa", sum := "a84d1264c445152a29ce0d08806aa9c88d693f99493ccc97f725c2f59fb03684", func := "canton/cantonlaw16.ViewsPlay", spec := "viewsPlay", unfollowed := true, recurses := true, apart := false }
def ViewsPlaySaid : Prop := viewsPlayRow.holds Try.pinned (OpenSpec.ofChange viewsPlaySpec)

/-- ITS FALSE NEIGHBOUR: 'it returns false'. Refute it at one input. -/
def viewsPlayWrong : ChangeSpec := { name := "viewsPlay", fn := fun _ => fun
  | [d1, d2, d3, d4] => { results := [.lit (.bool false)], args := [d1, d2, d3, d4] }
  | _ => none }
def ViewsPlayWrongFalsely : Prop := viewsPlayRow.holds Try.pinned (OpenSpec.ofChange viewsPlayWrong)

/-- 'cantonlaw16.ViewsStay': WHATEVER THE INPUT: true; the input reads as it did. -/
def viewsStaySpec : ChangeSpec := { name := "viewsStay", fn := fun _ => fun
  | [d1, d2] => { results := [.lit (.bool true)], args := [d1, d2] }
  | _ => none }
def viewsStayRow : OpenClaim := { program := "ytndnjmgmdkkifaa", sum := "a84d1264c445152a29ce0d08806aa9c88d693f99493ccc97f725c2f59fb03684", func := "canton/cantonlaw16.ViewsStay", spec := "viewsStay", unfollowed := true, recurses := true, apart := false }
def ViewsStaySaid : Prop := viewsStayRow.holds Try.pinned (OpenSpec.ofChange viewsStaySpec)

/-- ITS FALSE NEIGHBOUR: 'it returns false'. Refute it at one input. -/
def viewsStayWrong : ChangeSpec := { name := "viewsStay", fn := fun _ => fun
  | [d1, d2] => { results := [.lit (.bool false)], args := [d1, d2] }
  | _ => none }
def ViewsStayWrongFalsely : Prop := viewsStayRow.holds Try.pinned (OpenSpec.ofChange viewsStayWrong)

/-- 'cantonlaw16.ViewsGo': WHATEVER THE INPUT: true; the input reads as it did. -/
def viewsGoSpec : ChangeSpec := { name := "viewsGo", fn := fun _ => fun
  | [d1, d2, d3, d4, d5] => { results := [.lit (.bool true)], args := [d1, d2, d3, d4, d5] }
  | _ => none }
def viewsGoRow : OpenClaim := { program := "ytndnjmgmdkkifaa", sum := "a84d1264c445152a29ce0d08806aa9c88d693f99493ccc97f725c2f59fb03684", func := "canton/cantonlaw16.ViewsGo", spec := "viewsGo", unfollowed := true, recurses := true, apart := false }
def ViewsGoSaid : Prop := viewsGoRow.holds Try.pinned (OpenSpec.ofChange viewsGoSpec)

/-- ITS FALSE NEIGHBOUR: 'it returns false'. Refute it at one input. -/
def viewsGoWrong : ChangeSpec := { name := "viewsGo", fn := fun _ => fun
  | [d1, d2, d3, d4, d5] => { results := [.lit (.bool false)], args := [d1, d2, d3, d4, d5] }
  | _ => none }
def ViewsGoWrongFalsely : Prop := viewsGoRow.holds Try.pinned (OpenSpec.ofChange viewsGoWrong)

/-- 'cantonlaw16.ViewsSaved': WHATEVER THE INPUT: true; the input reads as it did. -/
def viewsSavedSpec : ChangeSpec := { name := "viewsSaved", fn := fun _ => fun
  | [d1, d2, d3, d4] => { results := [.lit (.bool true)], args := [d1, d2, d3, d4] }
  | _ => none }
def viewsSavedRow : OpenClaim := { program := "ytndnjmgmdkkifaa", sum := "a84d1264c445152a29ce0d08806aa9c88d693f99493ccc97f725c2f59fb03684", func := "canton/cantonlaw16.ViewsSaved", spec := "viewsSaved", unfollowed := true, recurses := true, apart := false }
def ViewsSavedSaid : Prop := viewsSavedRow.holds Try.pinned (OpenSpec.ofChange viewsSavedSpec)

/-- ITS FALSE NEIGHBOUR: 'it returns false'. Refute it at one input. -/
def viewsSavedWrong : ChangeSpec := { name := "viewsSaved", fn := fun _ => fun
  | [d1, d2, d3, d4] => { results := [.lit (.bool false)], args := [d1, d2, d3, d4] }
  | _ => none }
def ViewsSavedWrongFalsely : Prop := viewsSavedRow.holds Try.pinned (OpenSpec.ofChange viewsSavedWrong)

/-- 'cantonlaw16.ViewsAlone': WHATEVER THE INPUT: true; the input reads as it did. -/
def viewsAloneSpec : ChangeSpec := { name := "viewsAlone", fn := fun _ => fun
  | [d1, d2] => { results := [.lit (.bool true)], args := [d1, d2] }
  | _ => none }
def viewsAloneRow : OpenClaim := { program := "ytndnjmgmdkkifaa", sum := "a84d1264c445152a29ce0d08806aa9c88d693f99493ccc97f725c2f59fb03684", func := "canton/cantonlaw16.ViewsAlone", spec := "viewsAlone", unfollowed := true, recurses := true, apart := false }
def ViewsAloneSaid : Prop := viewsAloneRow.holds Try.pinned (OpenSpec.ofChange viewsAloneSpec)

/-- ITS FALSE NEIGHBOUR: 'it returns false'. Refute it at one input. -/
def viewsAloneWrong : ChangeSpec := { name := "viewsAlone", fn := fun _ => fun
  | [d1, d2] => { results := [.lit (.bool false)], args := [d1, d2] }
  | _ => none }
def ViewsAloneWrongFalsely : Prop := viewsAloneRow.holds Try.pinned (OpenSpec.ofChange viewsAloneWrong)

/-- 'cantonlaw16.ViewsOld': WHATEVER THE INPUT: true; the input reads as it did. -/
def viewsOldSpec : ChangeSpec := { name := "viewsOld", fn := fun _ => fun
  | [d1, d2, d3, d4, d5] => { results := [.lit (.bool true)], args := [d1, d2, d3, d4, d5] }
  | _ => none }
def viewsOldRow : OpenClaim := { program := "ytndnjmgmdkkifaa", sum := "a84d1264c445152a29ce0d08806aa9c88d693f99493ccc97f725c2f59fb03684", func := "canton/cantonlaw16.ViewsOld", spec := "viewsOld", unfollowed := true, recurses := true, apart := false }
def ViewsOldSaid : Prop := viewsOldRow.holds Try.pinned (OpenSpec.ofChange viewsOldSpec)

/-- ITS FALSE NEIGHBOUR: 'it returns false'. Refute it at one input. -/
def viewsOldWrong : ChangeSpec := { name := "viewsOld", fn := fun _ => fun
  | [d1, d2, d3, d4, d5] => { results := [.lit (.bool false)], args := [d1, d2, d3, d4, d5] }
  | _ => none }
def ViewsOldWrongFalsely : Prop := viewsOldRow.holds Try.pinned (OpenSpec.ofChange viewsOldWrong)

/-- 'cantonlaw16.ViewsFew': WHATEVER THE INPUT: true; the input reads as it did. -/
def viewsFewSpec : ChangeSpec := { name := "viewsFew", fn := fun _ => fun
  | [d1, d2, d3] => { results := [.lit (.bool true)], args := [d1, d2, d3] }
  | _ => none }
def viewsFewRow : OpenClaim := { program := "ytndnjmgmdkkifaa", sum := "a84d1264c445152a29ce0d08806aa9c88d693f99493ccc97f725c2f59fb03684", func := "canton/cantonlaw16.ViewsFew", spec := "viewsFew", unfollowed := true, recurses := true, apart := false }
def ViewsFewSaid : Prop := viewsFewRow.holds Try.pinned (OpenSpec.ofChange viewsFewSpec)

/-- ITS FALSE NEIGHBOUR: 'it returns false'. Refute it at one input. -/
def viewsFewWrong : ChangeSpec := { name := "viewsFew", fn := fun _ => fun
  | [d1, d2, d3] => { results := [.lit (.bool false)], args := [d1, d2, d3] }
  | _ => none }
def ViewsFewWrongFalsely : Prop := viewsFewRow.holds Try.pinned (OpenSpec.ofChange viewsFewWrong)

/- THE SECOND FORM. 'bulk': how many values and letters a reading holds, each counted each time it is reached (what is shared counts as often as it is met; a slice's spare places count too). A statement '..UptoSaid' is the law's where the arguments, and the package variables that the reading takes, are together of bulk at most 1048576: NARROWER than '..Said'. Prove '..Said' where nothing that the law and all that it calls make is longer than what came in: it says more and counts as full. Else prove '..UptoSaid'. A law counts once. -/
mutual
def uptoBulk {H : Type} : DataW H → Nat
  | .lit (.string bytes) => bytes.length + 1
  | .lit _ => 1
  | .nil => 1
  | .ptr d => uptoBulk d + 1
  | .slice elems spare => uptoBulkAll elems + uptoBulkAll spare + 1
  | .agg parts => uptoBulkAll parts + 1
  | .iface _ d => uptoBulk d + 1
  | .map entries => uptoBulkEntries entries + 1
  | .held _ => 1
def uptoBulkAll {H : Type} : List (DataW H) → Nat
  | [] => 0
  | d :: r => uptoBulk d + uptoBulkAll r
def uptoBulkEntries {H : Type} : List (Lit × DataW H) → Nat
  | [] => 0
  | x :: r => uptoBulkEntry x + uptoBulkEntries r
def uptoBulkEntry {H : Type} : Lit × DataW H → Nat
  | (.string bytes, d) => bytes.length + uptoBulk d + 1
  | (_, d) => uptoBulk d + 1
 end
def uptoSmall : (H : Type) → List (DataW H) → Bool := fun _ ds => decide (uptoBulkAll ds ≤ 1048576)
def OpenSpec.upto (s : _root_.Go.ChangeSpec) : _root_.Go.OpenSpec := { _root_.Go.OpenSpec.ofChange s with cond := some uptoSmall }

/-- 'cantonlaw16.ViewsPlay', WHERE WHAT IT READS IS OF BULK AT MOST 1048576: true; the input reads as it did. -/
def viewsPlayUptoRow : OpenClaim := { program := "ytndnjmgmdkkifaa", sum := "a84d1264c445152a29ce0d08806aa9c88d693f99493ccc97f725c2f59fb03684", func := "canton/cantonlaw16.ViewsPlay", spec := "viewsPlay", unfollowed := true, recurses := true, apart := false, narrowed := true }
def ViewsPlayUptoSaid : Prop := viewsPlayUptoRow.holds Try.pinned (OpenSpec.upto viewsPlaySpec)

/-- 'cantonlaw16.ViewsStay', WHERE WHAT IT READS IS OF BULK AT MOST 1048576: true; the input reads as it did. -/
def viewsStayUptoRow : OpenClaim := { program := "ytndnjmgmdkkifaa", sum := "a84d1264c445152a29ce0d08806aa9c88d693f99493ccc97f725c2f59fb03684", func := "canton/cantonlaw16.ViewsStay", spec := "viewsStay", unfollowed := true, recurses := true, apart := false, narrowed := true }
def ViewsStayUptoSaid : Prop := viewsStayUptoRow.holds Try.pinned (OpenSpec.upto viewsStaySpec)

/-- 'cantonlaw16.ViewsGo', WHERE WHAT IT READS IS OF BULK AT MOST 1048576: true; the input reads as it did. -/
def viewsGoUptoRow : OpenClaim := { program := "ytndnjmgmdkkifaa", sum := "a84d1264c445152a29ce0d08806aa9c88d693f99493ccc97f725c2f59fb03684", func := "canton/cantonlaw16.ViewsGo", spec := "viewsGo", unfollowed := true, recurses := true, apart := false, narrowed := true }
def ViewsGoUptoSaid : Prop := viewsGoUptoRow.holds Try.pinned (OpenSpec.upto viewsGoSpec)

/-- 'cantonlaw16.ViewsSaved', WHERE WHAT IT READS IS OF BULK AT MOST 1048576: true; the input reads as it did. -/
def viewsSavedUptoRow : OpenClaim := { program := "ytndnjmgmdkkifaa", sum := "a84d1264c445152a29ce0d08806aa9c88d693f99493ccc97f725c2f59fb03684", func := "canton/cantonlaw16.ViewsSaved", spec := "viewsSaved", unfollowed := true, recurses := true, apart := false, narrowed := true }
def ViewsSavedUptoSaid : Prop := viewsSavedUptoRow.holds Try.pinned (OpenSpec.upto viewsSavedSpec)

/-- 'cantonlaw16.ViewsAlone', WHERE WHAT IT READS IS OF BULK AT MOST 1048576: true; the input reads as it did. -/
def viewsAloneUptoRow : OpenClaim := { program := "ytndnjmgmdkkifaa", sum := "a84d1264c445152a29ce0d08806aa9c88d693f99493ccc97f725c2f59fb03684", func := "canton/cantonlaw16.ViewsAlone", spec := "viewsAlone", unfollowed := true, recurses := true, apart := false, narrowed := true }
def ViewsAloneUptoSaid : Prop := viewsAloneUptoRow.holds Try.pinned (OpenSpec.upto viewsAloneSpec)

/-- 'cantonlaw16.ViewsOld', WHERE WHAT IT READS IS OF BULK AT MOST 1048576: true; the input reads as it did. -/
def viewsOldUptoRow : OpenClaim := { program := "ytndnjmgmdkkifaa", sum := "a84d1264c445152a29ce0d08806aa9c88d693f99493ccc97f725c2f59fb03684", func := "canton/cantonlaw16.ViewsOld", spec := "viewsOld", unfollowed := true, recurses := true, apart := false, narrowed := true }
def ViewsOldUptoSaid : Prop := viewsOldUptoRow.holds Try.pinned (OpenSpec.upto viewsOldSpec)

/-- 'cantonlaw16.ViewsFew', WHERE WHAT IT READS IS OF BULK AT MOST 1048576: true; the input reads as it did. -/
def viewsFewUptoRow : OpenClaim := { program := "ytndnjmgmdkkifaa", sum := "a84d1264c445152a29ce0d08806aa9c88d693f99493ccc97f725c2f59fb03684", func := "canton/cantonlaw16.ViewsFew", spec := "viewsFew", unfollowed := true, recurses := true, apart := false, narrowed := true }
def ViewsFewUptoSaid : Prop := viewsFewUptoRow.holds Try.pinned (OpenSpec.upto viewsFewSpec)

end Rows
end Go.Proofs.Ytndnjmgmdkkifaa
