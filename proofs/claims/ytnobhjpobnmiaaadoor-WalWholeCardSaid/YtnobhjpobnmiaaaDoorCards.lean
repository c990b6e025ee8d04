/-
  DERIVED. GIVEN WITH THE SEED: THE CARDS: each row of YtnobhjpobnmiaaaDoorRows.lean that lists a variable, with what it lists TIED to the program's text (the seventh form; the later family's looks); each row that meets fmt, with fmt's text TOLD by the authors' own Lean function (tested against real Go, not proved from fmt's source: count such statements apart). THE CARD IS WHAT COUNTS. Prove the row's statement (the work); the ties are given (YtnobhjpobnmiaaaDoorTie.lean); close each card by the builder's one call (the guide's Derived/Test/ToyasCard.lean, 'card_holds'). Laid BY PROGRAM, IN A SANDBOX (cutbox-door.mjs). By AI agents, Wed Nov 11 2026. No macro, syntax, notation, axiom, sorry.
-/
import Derived.Test.YtnobhjpobnmiaaaDoorRows
import GoSem.ClaimSeven
namespace Go.Proofs.YtnobhjpobnmiaaaDoor
namespace Rows

/-- THE TIED CARD OF 'cantonlaw05.WalAny'. -/
def walAnyCard : Claim7 := { stood := { row := walAnyRow, standIns := [], harness := (true, "442549d042403de336290946dd194b9b92c6199860f7f60e934d9152cb5298f0"), looks := false }, kinds := [], alts := [], laidByText := true, laidKinds := [.data, .pinned], laidTests := true, laidLooks := .later }
def WalAnyCardSaid : Prop := Claim7.holds Tryd.pinned (.plain (OpenSpec.ofChange walAnySpec)) walAnyCard

/-- THE TIED CARD OF 'cantonlaw05.WalRoom'. -/
def walRoomCard : Claim7 := { stood := { row := walRoomRow, standIns := [], harness := (true, "442549d042403de336290946dd194b9b92c6199860f7f60e934d9152cb5298f0"), looks := false }, kinds := [], alts := [], laidByText := true, laidKinds := [.data, .pinned], laidTests := true, laidLooks := .later }
def WalRoomCardSaid : Prop := Claim7.holds Tryd.pinned (.plain (OpenSpec.ofChange walRoomSpec)) walRoomCard

/-- THE TIED CARD OF 'cantonlaw05.WalAgain'. -/
def walAgainCard : Claim7 := { stood := { row := walAgainRow, standIns := [], harness := (true, "442549d042403de336290946dd194b9b92c6199860f7f60e934d9152cb5298f0"), looks := false }, kinds := [], alts := [], laidByText := true, laidKinds := [.data, .pinned], laidTests := true, laidLooks := .later }
def WalAgainCardSaid : Prop := Claim7.holds Tryd.pinned (.plain (OpenSpec.ofChange walAgainSpec)) walAgainCard

/-- THE TIED CARD OF 'cantonlaw05.WalMany'. -/
def walManyCard : Claim7 := { stood := { row := walManyRow, standIns := [], harness := (true, "442549d042403de336290946dd194b9b92c6199860f7f60e934d9152cb5298f0"), looks := false }, kinds := [], alts := [], laidByText := true, laidKinds := [.data, .pinned], laidTests := true, laidLooks := .later }
def WalManyCardSaid : Prop := Claim7.holds Tryd.pinned (.plain (OpenSpec.ofChange walManySpec)) walManyCard

/-- THE TIED CARD OF 'cantonlaw05.WalWhole'. -/
def walWholeCard : Claim7 := { stood := { row := walWholeRow, standIns := [], harness := (true, "442549d042403de336290946dd194b9b92c6199860f7f60e934d9152cb5298f0"), looks := false }, kinds := [], alts := [], laidByText := true, laidKinds := [.data, .pinned], laidTests := true, laidLooks := .later }
def WalWholeCardSaid : Prop := Claim7.holds Tryd.pinned (.plain (OpenSpec.ofChange walWholeSpec)) walWholeCard

/-- THE TIED CARD OF 'cantonlaw05.WalStarts'. -/
def walStartsCard : Claim7 := { stood := { row := walStartsRow, standIns := [], harness := (true, "442549d042403de336290946dd194b9b92c6199860f7f60e934d9152cb5298f0"), looks := false }, kinds := [], alts := [], laidByText := true, laidKinds := [.data, .pinned], laidTests := true, laidLooks := .later }
def WalStartsCardSaid : Prop := Claim7.holds Tryd.pinned (.plain (OpenSpec.ofChange walStartsSpec)) walStartsCard

/-- THE SECOND FORM's CARD OF 'cantonlaw05.WalAny'. -/
def walAnyUptoCard : Claim7 := { stood := { row := walAnyUptoRow, standIns := [], harness := (true, "442549d042403de336290946dd194b9b92c6199860f7f60e934d9152cb5298f0"), looks := false }, kinds := [], alts := [], laidByText := true, laidKinds := [.data, .pinned], laidTests := true, laidLooks := .later }
def WalAnyUptoCardSaid : Prop := Claim7.holds Tryd.pinned (.plain (OpenSpec.upto walAnySpec)) walAnyUptoCard

/-- THE SECOND FORM's CARD OF 'cantonlaw05.WalRoom'. -/
def walRoomUptoCard : Claim7 := { stood := { row := walRoomUptoRow, standIns := [], harness := (true, "442549d042403de336290946dd194b9b92c6199860f7f60e934d9152cb5298f0"), looks := false }, kinds := [], alts := [], laidByText := true, laidKinds := [.data, .pinned], laidTests := true, laidLooks := .later }
def WalRoomUptoCardSaid : Prop := Claim7.holds Tryd.pinned (.plain (OpenSpec.upto walRoomSpec)) walRoomUptoCard

/-- THE SECOND FORM's CARD OF 'cantonlaw05.WalAgain'. -/
def walAgainUptoCard : Claim7 := { stood := { row := walAgainUptoRow, standIns := [], harness := (true, "442549d042403de336290946dd194b9b92c6199860f7f60e934d9152cb5298f0"), looks := false }, kinds := [], alts := [], laidByText := true, laidKinds := [.data, .pinned], laidTests := true, laidLooks := .later }
def WalAgainUptoCardSaid : Prop := Claim7.holds Tryd.pinned (.plain (OpenSpec.upto walAgainSpec)) walAgainUptoCard

/-- THE SECOND FORM's CARD OF 'cantonlaw05.WalMany'. -/
def walManyUptoCard : Claim7 := { stood := { row := walManyUptoRow, standIns := [], harness := (true, "442549d042403de336290946dd194b9b92c6199860f7f60e934d9152cb5298f0"), looks := false }, kinds := [], alts := [], laidByText := true, laidKinds := [.data, .pinned], laidTests := true, laidLooks := .later }
def WalManyUptoCardSaid : Prop := Claim7.holds Tryd.pinned (.plain (OpenSpec.upto walManySpec)) walManyUptoCard

/-- THE SECOND FORM's CARD OF 'cantonlaw05.WalWhole'. -/
def walWholeUptoCard : Claim7 := { stood := { row := walWholeUptoRow, standIns := [], harness := (true, "442549d042403de336290946dd194b9b92c6199860f7f60e934d9152cb5298f0"), looks := false }, kinds := [], alts := [], laidByText := true, laidKinds := [.data, .pinned], laidTests := true, laidLooks := .later }
def WalWholeUptoCardSaid : Prop := Claim7.holds Tryd.pinned (.plain (OpenSpec.upto walWholeSpec)) walWholeUptoCard

/-- THE SECOND FORM's CARD OF 'cantonlaw05.WalStarts'. -/
def walStartsUptoCard : Claim7 := { stood := { row := walStartsUptoRow, standIns := [], harness := (true, "442549d042403de336290946dd194b9b92c6199860f7f60e934d9152cb5298f0"), looks := false }, kinds := [], alts := [], laidByText := true, laidKinds := [.data, .pinned], laidTests := true, laidLooks := .later }
def WalStartsUptoCardSaid : Prop := Claim7.holds Tryd.pinned (.plain (OpenSpec.upto walStartsSpec)) walStartsUptoCard
end Rows
end Go.Proofs.YtnobhjpobnmiaaaDoor
