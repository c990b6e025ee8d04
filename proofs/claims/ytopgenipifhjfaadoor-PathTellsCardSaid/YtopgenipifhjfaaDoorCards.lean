/-
  DERIVED. GIVEN WITH THE SEED: THE CARDS: each row of YtopgenipifhjfaaDoorRows.lean that lists a variable, with what it lists TIED to the program's text (the seventh form; the later family's looks); each row that meets fmt, with fmt's text TOLD by the authors' own Lean function (tested against real Go, not proved from fmt's source: count such statements apart). THE CARD IS WHAT COUNTS. Prove the row's statement (the work); the ties are given (YtopgenipifhjfaaDoorTie.lean); close each card by the builder's one call (the guide's Derived/Test/ToyasCard.lean, 'card_holds'). Laid BY PROGRAM, IN A SANDBOX (cutbox-door.mjs). By AI agents, Wed Nov 11 2026. No macro, syntax, notation, axiom, sorry.
-/
import Derived.Test.YtopgenipifhjfaaDoorRows
import GoSem.ClaimSeven
namespace Go.Proofs.YtopgenipifhjfaaDoor
namespace Rows

/-- THE TIED CARD OF 'cantonlaw01.PathTells'. -/
def pathTellsCard : Claim7 := { stood := { row := pathTellsRow, standIns := [], harness := (true, "fe7d8cf968920c57231e97f626c85f0ab54ad13256a39e2c858e1a9314972ec1"), looks := false }, kinds := [], alts := [], laidByText := true, laidKinds := [.data, .data, .data], laidTests := true, laidLooks := .later }
def PathTellsCardSaid : Prop := Claim7.holds Tryd.pinned (.plain (OpenSpec.ofChange pathTellsSpec)) pathTellsCard

/-- THE TIED CARD OF 'cantonlaw01.PathBack'. -/
def pathBackCard : Claim7 := { stood := { row := pathBackRow, standIns := [], harness := (true, "fe7d8cf968920c57231e97f626c85f0ab54ad13256a39e2c858e1a9314972ec1"), looks := false }, kinds := [], alts := [], laidByText := true, laidKinds := [.data, .data, .data], laidTests := true, laidLooks := .later }
def PathBackCardSaid : Prop := Claim7.holds Tryd.pinned (.plain (OpenSpec.ofChange pathBackSpec)) pathBackCard

/-- THE TIED CARD OF 'cantonlaw01.PathIn'. -/
def pathInCard : Claim7 := { stood := { row := pathInRow, standIns := [], harness := (true, "fe7d8cf968920c57231e97f626c85f0ab54ad13256a39e2c858e1a9314972ec1"), looks := false }, kinds := [], alts := [], laidByText := true, laidKinds := [.data, .data, .data], laidTests := true, laidLooks := .later }
def PathInCardSaid : Prop := Claim7.holds Tryd.pinned (.plain (OpenSpec.ofChange pathInSpec)) pathInCard

/-- THE TIED CARD OF 'cantonlaw01.PathNumbers'. -/
def pathNumbersCard : Claim7 := { stood := { row := pathNumbersRow, standIns := [], harness := (true, "fe7d8cf968920c57231e97f626c85f0ab54ad13256a39e2c858e1a9314972ec1"), looks := false }, kinds := [], alts := [], laidByText := true, laidKinds := [.data, .data, .data], laidTests := true, laidLooks := .later }
def PathNumbersCardSaid : Prop := Claim7.holds Tryd.pinned (.plain (OpenSpec.ofChange pathNumbersSpec)) pathNumbersCard

/-- THE TIED CARD OF 'cantonlaw01.PathSplits'. -/
def pathSplitsCard : Claim7 := { stood := { row := pathSplitsRow, standIns := [], harness := (true, "fe7d8cf968920c57231e97f626c85f0ab54ad13256a39e2c858e1a9314972ec1"), looks := false }, kinds := [], alts := [], laidByText := true, laidKinds := [.data, .data, .data], laidTests := true, laidLooks := .later }
def PathSplitsCardSaid : Prop := Claim7.holds Tryd.pinned (.plain (OpenSpec.ofChange pathSplitsSpec)) pathSplitsCard

/-- THE TIED CARD OF 'cantonlaw01.PathSides'. -/
def pathSidesCard : Claim7 := { stood := { row := pathSidesRow, standIns := [], harness := (true, "fe7d8cf968920c57231e97f626c85f0ab54ad13256a39e2c858e1a9314972ec1"), looks := false }, kinds := [], alts := [], laidByText := true, laidKinds := [.data, .data, .data], laidTests := true, laidLooks := .later }
def PathSidesCardSaid : Prop := Claim7.holds Tryd.pinned (.plain (OpenSpec.ofChange pathSidesSpec)) pathSidesCard

/-- THE SECOND FORM's CARD OF 'cantonlaw01.PathTells'. -/
def pathTellsUptoCard : Claim7 := { stood := { row := pathTellsUptoRow, standIns := [], harness := (true, "fe7d8cf968920c57231e97f626c85f0ab54ad13256a39e2c858e1a9314972ec1"), looks := false }, kinds := [], alts := [], laidByText := true, laidKinds := [.data, .data, .data], laidTests := true, laidLooks := .later }
def PathTellsUptoCardSaid : Prop := Claim7.holds Tryd.pinned (.plain (OpenSpec.upto pathTellsSpec)) pathTellsUptoCard

/-- THE SECOND FORM's CARD OF 'cantonlaw01.PathBack'. -/
def pathBackUptoCard : Claim7 := { stood := { row := pathBackUptoRow, standIns := [], harness := (true, "fe7d8cf968920c57231e97f626c85f0ab54ad13256a39e2c858e1a9314972ec1"), looks := false }, kinds := [], alts := [], laidByText := true, laidKinds := [.data, .data, .data], laidTests := true, laidLooks := .later }
def PathBackUptoCardSaid : Prop := Claim7.holds Tryd.pinned (.plain (OpenSpec.upto pathBackSpec)) pathBackUptoCard

/-- THE SECOND FORM's CARD OF 'cantonlaw01.PathIn'. -/
def pathInUptoCard : Claim7 := { stood := { row := pathInUptoRow, standIns := [], harness := (true, "fe7d8cf968920c57231e97f626c85f0ab54ad13256a39e2c858e1a9314972ec1"), looks := false }, kinds := [], alts := [], laidByText := true, laidKinds := [.data, .data, .data], laidTests := true, laidLooks := .later }
def PathInUptoCardSaid : Prop := Claim7.holds Tryd.pinned (.plain (OpenSpec.upto pathInSpec)) pathInUptoCard

/-- THE SECOND FORM's CARD OF 'cantonlaw01.PathNumbers'. -/
def pathNumbersUptoCard : Claim7 := { stood := { row := pathNumbersUptoRow, standIns := [], harness := (true, "fe7d8cf968920c57231e97f626c85f0ab54ad13256a39e2c858e1a9314972ec1"), looks := false }, kinds := [], alts := [], laidByText := true, laidKinds := [.data, .data, .data], laidTests := true, laidLooks := .later }
def PathNumbersUptoCardSaid : Prop := Claim7.holds Tryd.pinned (.plain (OpenSpec.upto pathNumbersSpec)) pathNumbersUptoCard

/-- THE SECOND FORM's CARD OF 'cantonlaw01.PathSplits'. -/
def pathSplitsUptoCard : Claim7 := { stood := { row := pathSplitsUptoRow, standIns := [], harness := (true, "fe7d8cf968920c57231e97f626c85f0ab54ad13256a39e2c858e1a9314972ec1"), looks := false }, kinds := [], alts := [], laidByText := true, laidKinds := [.data, .data, .data], laidTests := true, laidLooks := .later }
def PathSplitsUptoCardSaid : Prop := Claim7.holds Tryd.pinned (.plain (OpenSpec.upto pathSplitsSpec)) pathSplitsUptoCard

/-- THE SECOND FORM's CARD OF 'cantonlaw01.PathSides'. -/
def pathSidesUptoCard : Claim7 := { stood := { row := pathSidesUptoRow, standIns := [], harness := (true, "fe7d8cf968920c57231e97f626c85f0ab54ad13256a39e2c858e1a9314972ec1"), looks := false }, kinds := [], alts := [], laidByText := true, laidKinds := [.data, .data, .data], laidTests := true, laidLooks := .later }
def PathSidesUptoCardSaid : Prop := Claim7.holds Tryd.pinned (.plain (OpenSpec.upto pathSidesSpec)) pathSidesUptoCard
end Rows
end Go.Proofs.YtopgenipifhjfaaDoor
