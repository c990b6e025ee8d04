/-
  NARROWER THAN 'FOR EVERY INPUT', by the rows' own cells (each row's printed sentence says how): WalAny: laid · WalRoom: laid · WalAgain: laid · WalMany: laid · WalWhole: laid · WalStarts: laid.
  DERIVED. THE GIVEN ROWS OF THIS SEAT. 6 by the template 'for every input the law returns true; each argument reads behind the call as it read before'; 0 by the template 'total and deterministic' (their statements: YtnobhjpobnmiaaaDoorTotals.lean).
  GIVEN WITH THE SEED: the statements are not yours to turn. If you find one false, say at which input.
  Laid BY PROGRAM, IN A SANDBOX (cutbox-rows.mjs): the forced cells as the released guide's own fill.sh prints them over the translation 97e5a8cb3398f959… (all of the seat's roots in one cut). By AI agents, Wed Nov 11 2026. No macro, syntax, notation, axiom, sorry.
-/
import Derived.Test.YtnobhjpobnmiaaaDoorChecked
import GoSem.PinnedTables
import GoSem.Claim
import GoSem.ClaimJoined
import GoSem.ClaimMapViews
import Derived.JoinedTies
import Derived.KernelRfl
namespace Go.Proofs.YtnobhjpobnmiaaaDoor
/- THE CELL 'sum', in the pinned program and in every row, IS THE sha256 OF THE DUMP (.gsa) THAT YtnobhjpobnmiaaaDoorProg.lean LOADS. Nothing in Lean hashes anything: it is a label: what it is worth is what the hold of that sum in a sandbox is worth. -/
noncomputable def Tryd.pinned : Pinned := { name := "ytnobhjpobnmiaaadoor", sum := "97e5a8cb3398f9596a606ef48061070fa44bb25a96889ba12c7098e69a7b059b", checked := Tryd.checked }
namespace Rows
def none {H : Type} : Left H := { results := [], args := [] }

/- WHAT THE LISTED PACKAGE-LEVEL VARIABLES READ AS WHEN THE CALL BEGINS. Each datum BY PROGRAM (the guide's laid-datum.mjs) off the statement by which the dump's own 'gosem.cut.vars' lays the variable. In a bare row this is a premise. The card (YtnobhjpobnmiaaaDoorCards.lean) ties it to the program's text. -/
def laid_unicode_utf8_acceptRanges {H : Type} : DataW H := .agg [.agg [.lit (.int .u8 128), .lit (.int .u8 191)], .agg [.lit (.int .u8 160), .lit (.int .u8 191)], .agg [.lit (.int .u8 128), .lit (.int .u8 159)], .agg [.lit (.int .u8 144), .lit (.int .u8 191)], .agg [.lit (.int .u8 128), .lit (.int .u8 143)], .agg [.lit (.int .u8 0), .lit (.int .u8 0)], .agg [.lit (.int .u8 0), .lit (.int .u8 0)], .agg [.lit (.int .u8 0), .lit (.int .u8 0)], .agg [.lit (.int .u8 0), .lit (.int .u8 0)], .agg [.lit (.int .u8 0), .lit (.int .u8 0)], .agg [.lit (.int .u8 0), .lit (.int .u8 0)], .agg [.lit (.int .u8 0), .lit (.int .u8 0)], .agg [.lit (.int .u8 0), .lit (.int .u8 0)], .agg [.lit (.int .u8 0), .lit (.int .u8 0)], .agg [.lit (.int .u8 0), .lit (.int .u8 0)], .agg [.lit (.int .u8 0), .lit (.int .u8 0)]]
/-- One of Go's own tables, pinned by name: the form's constant. -/
def laid_unicode_utf8_first : DataW Unit := Go.Pinned.utf8First

/-- 'cantonlaw05.WalAny': WHATEVER THE INPUT: true; the input reads as it did. -/
def walAnySpec : ChangeSpec := { name := "walAny", fn := fun _ => fun
  | [d1, d2] => { results := [.lit (.bool true)], args := [d1, d2] }
  | _ => none }
def walAnyRow : OpenClaim := { program := "ytnobhjpobnmiaaadoor", sum := "97e5a8cb3398f9596a606ef48061070fa44bb25a96889ba12c7098e69a7b059b", func := "canton/cantonlaw05.WalAny", spec := "walAny", unfollowed := true, recurses := true, named := ["unicode/utf8.first", "unicode/utf8.acceptRanges"], apart := false, laid := [("unicode/utf8.acceptRanges", laid_unicode_utf8_acceptRanges), ("unicode/utf8.first", laid_unicode_utf8_first)] }
def WalAnySaid : Prop := walAnyRow.holds Tryd.pinned (OpenSpec.ofChange walAnySpec)

/-- ITS FALSE NEIGHBOUR: 'it returns false'. Refute it at one input. -/
def walAnyWrong : ChangeSpec := { name := "walAny", fn := fun _ => fun
  | [d1, d2] => { results := [.lit (.bool false)], args := [d1, d2] }
  | _ => none }
def WalAnyWrongFalsely : Prop := walAnyRow.holds Tryd.pinned (OpenSpec.ofChange walAnyWrong)

/-- 'cantonlaw05.WalRoom': WHATEVER THE INPUT: true; the input reads as it did. -/
def walRoomSpec : ChangeSpec := { name := "walRoom", fn := fun _ => fun
  | [d1, d2] => { results := [.lit (.bool true)], args := [d1, d2] }
  | _ => none }
def walRoomRow : OpenClaim := { program := "ytnobhjpobnmiaaadoor", sum := "97e5a8cb3398f9596a606ef48061070fa44bb25a96889ba12c7098e69a7b059b", func := "canton/cantonlaw05.WalRoom", spec := "walRoom", unfollowed := true, recurses := true, named := ["unicode/utf8.first", "unicode/utf8.acceptRanges"], apart := false, laid := [("unicode/utf8.acceptRanges", laid_unicode_utf8_acceptRanges), ("unicode/utf8.first", laid_unicode_utf8_first)] }
def WalRoomSaid : Prop := walRoomRow.holds Tryd.pinned (OpenSpec.ofChange walRoomSpec)

/-- ITS FALSE NEIGHBOUR: 'it returns false'. Refute it at one input. -/
def walRoomWrong : ChangeSpec := { name := "walRoom", fn := fun _ => fun
  | [d1, d2] => { results := [.lit (.bool false)], args := [d1, d2] }
  | _ => none }
def WalRoomWrongFalsely : Prop := walRoomRow.holds Tryd.pinned (OpenSpec.ofChange walRoomWrong)

/-- 'cantonlaw05.WalAgain': WHATEVER THE INPUT: true; the input reads as it did. -/
def walAgainSpec : ChangeSpec := { name := "walAgain", fn := fun _ => fun
  | [d1, d2] => { results := [.lit (.bool true)], args := [d1, d2] }
  | _ => none }
def walAgainRow : OpenClaim := { program := "ytnobhjpobnmiaaadoor", sum := "97e5a8cb3398f9596a606ef48061070fa44bb25a96889ba12c7098e69a7b059b", func := "canton/cantonlaw05.WalAgain", spec := "walAgain", unfollowed := true, recurses := true, named := ["unicode/utf8.first", "unicode/utf8.acceptRanges"], apart := false, laid := [("unicode/utf8.acceptRanges", laid_unicode_utf8_acceptRanges), ("unicode/utf8.first", laid_unicode_utf8_first)] }
def WalAgainSaid : Prop := walAgainRow.holds Tryd.pinned (OpenSpec.ofChange walAgainSpec)

/-- ITS FALSE NEIGHBOUR: 'it returns false'. Refute it at one input. -/
def walAgainWrong : ChangeSpec := { name := "walAgain", fn := fun _ => fun
  | [d1, d2] => { results := [.lit (.bool false)], args := [d1, d2] }
  | _ => none }
def WalAgainWrongFalsely : Prop := walAgainRow.holds Tryd.pinned (OpenSpec.ofChange walAgainWrong)

/-- 'cantonlaw05.WalMany': WHATEVER THE INPUT: true; the input reads as it did. -/
def walManySpec : ChangeSpec := { name := "walMany", fn := fun _ => fun
  | [d1, d2] => { results := [.lit (.bool true)], args := [d1, d2] }
  | _ => none }
def walManyRow : OpenClaim := { program := "ytnobhjpobnmiaaadoor", sum := "97e5a8cb3398f9596a606ef48061070fa44bb25a96889ba12c7098e69a7b059b", func := "canton/cantonlaw05.WalMany", spec := "walMany", unfollowed := true, recurses := true, named := ["unicode/utf8.first", "unicode/utf8.acceptRanges"], apart := false, laid := [("unicode/utf8.acceptRanges", laid_unicode_utf8_acceptRanges), ("unicode/utf8.first", laid_unicode_utf8_first)] }
def WalManySaid : Prop := walManyRow.holds Tryd.pinned (OpenSpec.ofChange walManySpec)

/-- ITS FALSE NEIGHBOUR: 'it returns false'. Refute it at one input. -/
def walManyWrong : ChangeSpec := { name := "walMany", fn := fun _ => fun
  | [d1, d2] => { results := [.lit (.bool false)], args := [d1, d2] }
  | _ => none }
def WalManyWrongFalsely : Prop := walManyRow.holds Tryd.pinned (OpenSpec.ofChange walManyWrong)

/-- 'cantonlaw05.WalWhole': WHATEVER THE INPUT: true; the input reads as it did. -/
def walWholeSpec : ChangeSpec := { name := "walWhole", fn := fun _ => fun
  | [d1, d2, d3, d4, d5] => { results := [.lit (.bool true)], args := [d1, d2, d3, d4, d5] }
  | _ => none }
def walWholeRow : OpenClaim := { program := "ytnobhjpobnmiaaadoor", sum := "97e5a8cb3398f9596a606ef48061070fa44bb25a96889ba12c7098e69a7b059b", func := "canton/cantonlaw05.WalWhole", spec := "walWhole", unfollowed := true, recurses := true, named := ["unicode/utf8.first", "unicode/utf8.acceptRanges"], apart := false, laid := [("unicode/utf8.acceptRanges", laid_unicode_utf8_acceptRanges), ("unicode/utf8.first", laid_unicode_utf8_first)] }
def WalWholeSaid : Prop := walWholeRow.holds Tryd.pinned (OpenSpec.ofChange walWholeSpec)

/-- ITS FALSE NEIGHBOUR: 'it returns false'. Refute it at one input. -/
def walWholeWrong : ChangeSpec := { name := "walWhole", fn := fun _ => fun
  | [d1, d2, d3, d4, d5] => { results := [.lit (.bool false)], args := [d1, d2, d3, d4, d5] }
  | _ => none }
def WalWholeWrongFalsely : Prop := walWholeRow.holds Tryd.pinned (OpenSpec.ofChange walWholeWrong)

/-- 'cantonlaw05.WalStarts': WHATEVER THE INPUT: true; the input reads as it did. -/
def walStartsSpec : ChangeSpec := { name := "walStarts", fn := fun _ => fun
  | [d1, d2, d3, d4, d5] => { results := [.lit (.bool true)], args := [d1, d2, d3, d4, d5] }
  | _ => none }
def walStartsRow : OpenClaim := { program := "ytnobhjpobnmiaaadoor", sum := "97e5a8cb3398f9596a606ef48061070fa44bb25a96889ba12c7098e69a7b059b", func := "canton/cantonlaw05.WalStarts", spec := "walStarts", unfollowed := true, recurses := true, named := ["unicode/utf8.first", "unicode/utf8.acceptRanges"], apart := false, laid := [("unicode/utf8.acceptRanges", laid_unicode_utf8_acceptRanges), ("unicode/utf8.first", laid_unicode_utf8_first)] }
def WalStartsSaid : Prop := walStartsRow.holds Tryd.pinned (OpenSpec.ofChange walStartsSpec)

/-- ITS FALSE NEIGHBOUR: 'it returns false'. Refute it at one input. -/
def walStartsWrong : ChangeSpec := { name := "walStarts", fn := fun _ => fun
  | [d1, d2, d3, d4, d5] => { results := [.lit (.bool false)], args := [d1, d2, d3, d4, d5] }
  | _ => none }
def WalStartsWrongFalsely : Prop := walStartsRow.holds Tryd.pinned (OpenSpec.ofChange walStartsWrong)

/- THE SECOND FORM. 'bulk': how many values and letters a reading holds, each counted each time it is reached (what is shared counts as often as it is met; a slice's spare places count too). A statement '..UptoSaid' is the law's where the arguments, and the package variables that the reading takes, are together of bulk at most 1048576: NARROWER than '..Said'. Prove '..Said' where nothing that the law and all that it calls make is longer than what came in: it says more and counts as full. Else prove '..UptoSaid'. A law counts once. -/
mutual
def uptoBulk {H : Type} : DataW H → Nat
  | .lit (.string bytes) => bytes.length + 1
  | .lit _ => 1
  | .nil => 1
  | .ptr d => uptoBulk d + 1
  | .slice elems spare => uptoBulkAll elems + uptoBulkAll spare + 1
  | .agg parts => uptoBulkAll parts + 1
  | .iface _ d => uptoBulk d + 1
  | .map entries => uptoBulkEntries entries + 1
  | .held _ => 1
def uptoBulkAll {H : Type} : List (DataW H) → Nat
  | [] => 0
  | d :: r => uptoBulk d + uptoBulkAll r
def uptoBulkEntries {H : Type} : List (Lit × DataW H) → Nat
  | [] => 0
  | x :: r => uptoBulkEntry x + uptoBulkEntries r
def uptoBulkEntry {H : Type} : Lit × DataW H → Nat
  | (.string bytes, d) => bytes.length + uptoBulk d + 1
  | (_, d) => uptoBulk d + 1
 end
def uptoSmall : (H : Type) → List (DataW H) → Bool := fun _ ds => decide (uptoBulkAll ds ≤ 1048576)
def OpenSpec.upto (s : _root_.Go.ChangeSpec) : _root_.Go.OpenSpec := { _root_.Go.OpenSpec.ofChange s with cond := some uptoSmall }

/-- 'cantonlaw05.WalAny', WHERE WHAT IT READS IS OF BULK AT MOST 1048576: true; the input reads as it did. -/
def walAnyUptoRow : OpenClaim := { program := "ytnobhjpobnmiaaadoor", sum := "97e5a8cb3398f9596a606ef48061070fa44bb25a96889ba12c7098e69a7b059b", func := "canton/cantonlaw05.WalAny", spec := "walAny", unfollowed := true, recurses := true, named := ["unicode/utf8.first", "unicode/utf8.acceptRanges"], apart := false, laid := [("unicode/utf8.acceptRanges", laid_unicode_utf8_acceptRanges), ("unicode/utf8.first", laid_unicode_utf8_first)], narrowed := true }
def WalAnyUptoSaid : Prop := walAnyUptoRow.holds Tryd.pinned (OpenSpec.upto walAnySpec)

/-- 'cantonlaw05.WalRoom', WHERE WHAT IT READS IS OF BULK AT MOST 1048576: true; the input reads as it did. -/
def walRoomUptoRow : OpenClaim := { program := "ytnobhjpobnmiaaadoor", sum := "97e5a8cb3398f9596a606ef48061070fa44bb25a96889ba12c7098e69a7b059b", func := "canton/cantonlaw05.WalRoom", spec := "walRoom", unfollowed := true, recurses := true, named := ["unicode/utf8.first", "unicode/utf8.acceptRanges"], apart := false, laid := [("unicode/utf8.acceptRanges", laid_unicode_utf8_acceptRanges), ("unicode/utf8.first", laid_unicode_utf8_first)], narrowed := true }
def WalRoomUptoSaid : Prop := walRoomUptoRow.holds Tryd.pinned (OpenSpec.upto walRoomSpec)

/-- 'cantonlaw05.WalAgain', WHERE WHAT IT READS IS OF BULK AT MOST 1048576: true; the input reads as it did. -/
def walAgainUptoRow : OpenClaim := { program := "ytnobhjpobnmiaaadoor", sum := "97e5a8cb3398f9596a606ef48061070fa44bb25a96889ba12c7098e69a7b059b", func := "canton/cantonlaw05.WalAgain", spec := "walAgain", unfollowed := true, recurses := true, named := ["unicode/utf8.first", "unicode/utf8.acceptRanges"], apart := false, laid := [("unicode/utf8.acceptRanges", laid_unicode_utf8_acceptRanges), ("unicode/utf8.first", laid_unicode_utf8_first)], narrowed := true }
def WalAgainUptoSaid : Prop := walAgainUptoRow.holds Tryd.pinned (OpenSpec.upto walAgainSpec)

/-- 'cantonlaw05.WalMany', WHERE WHAT IT READS IS OF BULK AT MOST 1048576: true; the input reads as it did. -/
def walManyUptoRow : OpenClaim := { program := "ytnobhjpobnmiaaadoor", sum := "97e5a8cb3398f9596a606ef48061070fa44bb25a96889ba12c7098e69a7b059b", func := "canton/cantonlaw05.WalMany", spec := "walMany", unfollowed := true, recurses := true, named := ["unicode/utf8.first", "unicode/utf8.acceptRanges"], apart := false, laid := [("unicode/utf8.acceptRanges", laid_unicode_utf8_acceptRanges), ("unicode/utf8.first", laid_unicode_utf8_first)], narrowed := true }
def WalManyUptoSaid : Prop := walManyUptoRow.holds Tryd.pinned (OpenSpec.upto walManySpec)

/-- 'cantonlaw05.WalWhole', WHERE WHAT IT READS IS OF BULK AT MOST 1048576: true; the input reads as it did. -/
def walWholeUptoRow : OpenClaim := { program := "ytnobhjpobnmiaaadoor", sum := "97e5a8cb3398f9596a606ef48061070fa44bb25a96889ba12c7098e69a7b059b", func := "canton/cantonlaw05.WalWhole", spec := "walWhole", unfollowed := true, recurses := true, named := ["unicode/utf8.first", "unicode/utf8.acceptRanges"], apart := false, laid := [("unicode/utf8.acceptRanges", laid_unicode_utf8_acceptRanges), ("unicode/utf8.first", laid_unicode_utf8_first)], narrowed := true }
def WalWholeUptoSaid : Prop := walWholeUptoRow.holds Tryd.pinned (OpenSpec.upto walWholeSpec)

/-- 'cantonlaw05.WalStarts', WHERE WHAT IT READS IS OF BULK AT MOST 1048576: true; the input reads as it did. -/
def walStartsUptoRow : OpenClaim := { program := "ytnobhjpobnmiaaadoor", sum := "97e5a8cb3398f9596a606ef48061070fa44bb25a96889ba12c7098e69a7b059b", func := "canton/cantonlaw05.WalStarts", spec := "walStarts", unfollowed := true, recurses := true, named := ["unicode/utf8.first", "unicode/utf8.acceptRanges"], apart := false, laid := [("unicode/utf8.acceptRanges", laid_unicode_utf8_acceptRanges), ("unicode/utf8.first", laid_unicode_utf8_first)], narrowed := true }
def WalStartsUptoSaid : Prop := walStartsUptoRow.holds Tryd.pinned (OpenSpec.upto walStartsSpec)

end Rows
end Go.Proofs.YtnobhjpobnmiaaaDoor
