/-
  DERIVED: THE SHELF's CONTRACTS AT THIS DUMP, IN PLAIN WORDS (tools/lay-plain.mjs out of 'TryShelf.lean', which tools/lay-shelf.mjs wrote): THE SAME DECLARATIONS UNDER THE SAME NAMES: 'import', 'namespace', 'open', 'def', 'theorem' AND NOTHING ELSE: no command of the shelf's: FOR A HAND-IN. Each laying: the table of numbers ('.._ren') and one theorem, a field a fact of the dump's own or the kernel's comparison; each contract: ONE APPLICATION.
-/
import Derived.Test.YtndnjmgmdkkifaaNew
import Derived.Ground.Names2Prog
import Derived.Shelf.Slices.Clone
import Derived.Test.YtndnjmgmdkkifaaProg
/- Views, of numbers and lists alone: a replica's part, and what the calls make of it. -/
namespace Go.Proofs.Ytndnjmgmdkkifaa.Vw
open Go Go.RowKit Go.Proofs.Ytndnjmgmdkkifaa.New
set_option linter.unusedVariables false

abbrev Log := List ByteArray
def bytesN (l : Log) : Nat := l.foldr (fun s n => s.size + n) 0
/-- may that be a log? -/
def rightL (l : Log) : Bool := l.all (fun s => decide (s.size ≤ 4096)) && (decide (l.length ≤ 96) && decide (bytesN l ≤ 14000))
/-- a replica's part -/
structure V where
  view : Int
  normal : Int
  log : Log
  me : Int
  many : Int
  stays : Int
  acked : List Int
  changes : List (Option (Int × Log))
def V.first (s : V) : Int := s.view % s.many
def V.normalB (s : V) : Bool := s.normal == s.view
def V.firstB (s : V) : Bool := (s.view % s.many == s.me) && s.normalB
def V.mostB (s : V) (others : Int) : Bool := decide (2 * (others + 1) > s.many)
def V.others (s : V) : Nat := s.acked.countP (fun n => decide (n > s.stays))
/-- how far it stays: as many rounds as the log is long -/
def reckonN : Nat → V → V
  | 0, s => s
  | k + 1, s => if (s.firstB && decide (s.stays < s.log.length)) = true then (if s.mostB s.others = true then reckonN k { s with stays := s.stays + 1 } else s) else s
def V.reckon (s : V) : V := reckonN s.log.length s
def V.told (s : V) : Nat := s.changes.countP (fun c => c.isSome)
/-- the best of what was handed over -/
def bestOf : Int × Log → List (Option (Int × Log)) → Int × Log
  | b, [] => b
  | b, none :: t => bestOf b t
  | b, some c :: t => bestOf (if newB c.1 (c.2.length : Int) b.1 (b.2.length : Int) = true then c else b) t
def V.count (s : V) : V :=
  if (s.first == s.me && (!s.normalB && s.mostB s.told)) = true then V.reckon { s with log := (bestOf (s.normal, s.log) s.changes).2, normal := s.view } else s
def V.fresh (s : V) (view : Int) : V := { s with view := view, acked := List.replicate s.many.toNat 0, changes := List.replicate s.many.toNat none }
def newV (me many view normal : Int) (log : Log) : Option V :=
  if (decide (1 ≤ many) && (decide (many ≤ 5) && (decide (0 ≤ me) && (decide (me < many) && (rightL log && (decide (0 ≤ normal) && (decide (normal ≤ view) && decide (view ≤ 281474976710656)))))))) = true then
    some ⟨view, normal, log, me, many, 0, List.replicate many.toNat 0, List.replicate many.toNat none⟩ else none
def V.propose (s : V) (entry : ByteArray) : V × Bool := if (s.firstB && rightL (s.log ++ [entry])) = true then (V.reckon { s with log := s.log ++ [entry] }, true) else (s, false)
def V.turn (s : V) : V × Bool := if s.view = 281474976710656 then (s, false) else ((s.fresh (s.view + 1)).count, true)
/-- a letter -/
structure Ltr where
  kind : Int
  view : Int
  normal : Int
  log : Log
  len : Int
  stays : Int
  num : Int
  text : ByteArray
def V.otherB (s : V) (n : Int) : Bool := decide (0 ≤ n) && (decide (n < s.many) && !(n == s.me))
def V.rightB (s : V) (l : Ltr) : Bool :=
  decide (0 ≤ l.normal) && (decide (l.normal ≤ l.view) && (decide (l.view ≤ 281474976710656) && (decide (s.view ≤ l.view) && (decide (1 ≤ l.kind) && (decide (l.kind ≤ 3) && (rightL l.log && (decide (0 ≤ l.len) && (decide (l.len ≤ 96) && (decide (0 ≤ l.stays) && decide (l.stays ≤ 96))))))))))
def imax (a b : Int) : Int := if a < b then b else a
def imin (a b : Int) : Int := if b < a then b else a
def V.got (s : V) (from_ : Int) (l : Ltr) : V :=
  if (l.kind == 1 && from_ == s.first) = true then
    (let t := if (!s.normalB || decide (s.log.length ≤ l.log.length)) = true then { s with log := l.log, normal := s.view } else s
     { t with stays := imax t.stays (imin l.stays t.log.length) })
  else if (l.kind == 2 && s.firstB) = true then V.reckon { s with acked := s.acked.set from_.toNat (imax (s.acked.getD from_.toNat 0) l.len) }
  else if (l.kind == 3 && (s.first == s.me && !s.normalB)) = true then V.count { s with changes := s.changes.set from_.toNat (some (l.normal, l.log)) }
  else s
def V.take (s : V) (from_ : Int) (l : Ltr) : V × Bool :=
  if (s.otherB from_ && s.rightB l) = true then ((if s.view < l.view then s.fresh l.view else s).got from_ l, true) else (s, false)
def noL : Ltr := ⟨0, 0, 0, [], 0, 0, 0, ⟨#[]⟩⟩
def V.send (s : V) (to_ : Int) : Ltr × Bool :=
  if s.otherB to_ = false then (noL, false)
  else if s.firstB = true then (⟨1, s.view, 0, s.log, 0, s.stays, 0, ⟨#[]⟩⟩, true)
  else if (to_ == s.first) = false then (noL, false)
  else if s.normalB = true then (⟨2, s.view, 0, [], s.log.length, 0, 0, ⟨#[]⟩⟩, true)
  else (⟨3, s.view, s.normal, s.log, 0, 0, 0, ⟨#[]⟩⟩, true)
/-- what always holds of a part -/
structure OkV (s : V) : Prop where
  many : 1 ≤ s.many ∧ s.many ≤ 5
  me : 0 ≤ s.me ∧ s.me < s.many
  normal : 0 ≤ s.normal ∧ s.normal ≤ s.view
  view : s.view ≤ 281474976710656
  log : rightL s.log = true
  stays : 0 ≤ s.stays ∧ s.stays ≤ 96
  alen : s.acked.length = s.many.toNat
  ack : ∀ n ∈ s.acked, 0 ≤ n ∧ n ≤ 96
  clen : s.changes.length = s.many.toNat
  chg : ∀ c ∈ s.changes, ∀ x, c = some x → 0 ≤ x.1 ∧ x.1 ≤ 281474976710656 ∧ rightL x.2 = true
end Go.Proofs.Ytndnjmgmdkkifaa.Vw
namespace Go.Proofs
open Go.Shelf
def Try.laysNm216_ren : Go.Shelf.Ren := ⟨fun | 16 => 35 | n => n, fun | 24 => 22 | 9 => 9 | 4 => 4 | n => n, fun | n => n⟩
theorem Try.laysNm216 : Go.Proofs.Lays2.n16 Try.prog Try.laysNm216_ren := {
  mixed := by kernel_rfl
  f16 := Try.func35.trans (congrArg some (by kernel_rfl))
  t4 := Try.underlying4
  a4 := Try.isAgg4
  z4 := Try.sizeOf4
  v4 := Try.zeroValue4
  t9 := Try.underlying9
  a9 := Try.isAgg9
  z9 := Try.sizeOf9
  v9 := Try.zeroValue9
  t24 := Try.underlying22
  a24 := Try.isAgg22
  z24 := Try.sizeOf22
  v24 := Try.zeroValue22
  i9 := by kernel_rfl }
open Go.RowKit Go.Lib in
/-- slices.Clone at []string: "Clone returns a copy of the slice. The elements are copied using assignment, so this is a shallow clone. The result may have additional unused capacity. The result preserves the nilness of s.": OF A SLICE THAT IS NOT nil IT RETURNS A SLICE THAT IS NOT nil, OF THE SAME ELEMENTS, IN MEMORY OF THE CALL's OWN: in the how-to's words (6f): 'w'.ownsRow B e 1 v' n cells': v' begins at the head of a row among the blocks from B on (B: the heap's size at the call), not frozen, whose first cells are the elements · 'Below B w w'': below B all is as it was. The capacity is whatever the run-time gives. 'zs': what the cells behind the slice's address hold; 'zs.take n': its elements. (LAID: no walk: one application.) -/
theorem Try.slices_Clone_string (b off n c : Nat) (zs : List ByteArray) (w : World) (hz : n ≤ zs.length) (hbig : n * 16 ≤ 140737488355328) (hc : ∀ j, j < zs.length → w.cell? ⟨b, off + j, none⟩ = some (.string (zs.getD j ByteArray.empty))) :
    Calls Try.prog 35 #[.slice (some ⟨b, off, none⟩) n c] w fun e w' => ∃ v', e = .returned v' ∧ w'.ownsRow w.heap.size 9 1 v' n ((zs.take n).map (Value.string)) ∧ v' ≠ .slice none 0 0 ∧ Below w.heap.size w w' := Any.slices_Clone_string Try.laysNm216 b off n c zs w hz hbig hc
open Go.RowKit Go.Lib in
/-- The same at nil: nil comes back; the world is as it was. (LAID: no walk: one application.) -/
theorem Try.slices_Clone_string_nil (n c : Nat) (w : World) :
    Calls Try.prog 35 #[.slice none n c] w fun e w' => e = .returned (.slice none 0 0) ∧ w' = w := Any.slices_Clone_string_nil Try.laysNm216 n c w
open Go.RowKit Go.Lib in
/-- The same at a slice of length 0 that is not nil, WHATEVER ITS ADDRESS (no cell is asked for): a slice that is not nil and owns nothing comes back. (LAID: no walk: one application.) -/
theorem Try.slices_Clone_string_zero (a : Addr) (c : Nat) (w : World) :
    Calls Try.prog 35 #[.slice (some a) 0 c] w fun e w' => ∃ v', e = .returned v' ∧ w'.ownsRow w.heap.size 9 1 v' 0 [] ∧ v' ≠ .slice none 0 0 ∧ Below w.heap.size w w' := Any.slices_Clone_string_zero Try.laysNm216 a c w
end Go.Proofs
