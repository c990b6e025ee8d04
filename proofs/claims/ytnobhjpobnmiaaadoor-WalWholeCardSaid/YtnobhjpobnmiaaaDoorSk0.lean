/- A disk, without memory. -/
import Derived.Laws.CopyOwn
import Derived.RowKit
namespace Go.Proofs.YtnobhjpobnmiaaaDoor.Sk
open Go Go.RowKit
set_option linter.unusedVariables false
set_option linter.unusedSimpArgs false

abbrev By := List Int
/-- a disk: its bytes, what they were when last all was kept, which sectors are loose, how many acts, the fuse (below 0: none), is the power gone? -/
structure D where
  b : By
  old : By
  wet : List Bool
  acts : Nat
  fuse : Int
  down : Bool
/-- a sector -/
def sec (b : By) (i : Nat) : By := (b.drop (i * 16)).take 16
/-- is a sector touched by so many bytes at a place? -/
def touched (at_ n i : Nat) : Bool := decide (0 < n) && (decide (at_ / 16 ≤ i) && decide (i * 16 < at_ + n))
def marks (wet : List Bool) (at_ n : Nat) : List Bool := wet.mapIdx fun i w => w || touched at_ n i
def tick (f : Int) : Int := max (f - 1) (-1)
def within (len : Nat) (at_ n : Int) : Bool := decide (0 ≤ at_) && (decide (0 ≤ n) && (decide (at_ ≤ len) && decide (n ≤ len - at_)))
def D.off (s : D) : Bool := s.down || s.fuse == 0
/-- an act -/
def D.did (s : D) : D := { s with acts := s.acts + 1, fuse := tick s.fuse, down := false }
def D.write (s : D) (at_ : Int) (x : By) : D × Int :=
  if s.off then ({ s with down := true }, 31)
  else if within s.b.length at_ x.length then ({ s.did with b := splice s.b at_.toNat x, wet := marks s.wet at_.toNat x.length }, 0)
  else (s, 1)
def D.sync (s : D) : D × Int :=
  if s.off then ({ s with down := true }, 31) else ({ s.did with old := s.b, wet := List.replicate s.wet.length false }, 0)
def D.read (s : D) (at_ n : Int) : By × Int :=
  if s.down then ([], 31) else if within s.b.length at_ n then ((s.b.drop at_.toNat).take n.toNat, 0) else ([], 1)
def D.fused (s : D) (n : Int) : D := { s with fuse := max n (-1) }
/-- the loose sectors -/
def loose (wet : List Bool) : List Nat := (List.range wet.length).filter fun i => wet.getD i false
/-- some of them are as they were -/
def restore (old : By) (keep : List Bool) : List Nat → Nat → By → By
  | [], _, b => b
  | i :: l, k, b => restore old keep l (k + 1) (if keep.getD k false then b else splice b (i * 16) (sec old i))
def D.crash (s : D) (keep : List Bool) : D :=
  let b := restore s.old keep (loose s.wet) 0 s.b
  { s with b := b, old := b, wet := List.replicate s.wet.length false, fuse := -1, down := false }
def okLen (n : Nat) : Bool := decide (0 < n) && (n % 16 == 0 && decide (n ≤ 65536))
def made (b : By) : D := ⟨b, b, List.replicate (b.length / 16) false, 0, -1, false⟩
def ofB (b : By) : Option D := if okLen b.length then some (made b) else none
/-- what always holds -/
structure Ok (s : D) : Prop where
  n1 : 1 ≤ s.wet.length
  n2 : s.wet.length ≤ 4096
  bl : s.b.length = s.wet.length * 16
  ol : s.old.length = s.wet.length * 16
  br : ∀ x ∈ s.b, 0 ≤ x ∧ x ≤ 255
  or_ : ∀ x ∈ s.old, 0 ≤ x ∧ x ≤ 255
  fl : -1 ≤ s.fuse
  fu : s.fuse ≤ 9223372036854775807
  clean : ∀ i, i < s.wet.length → s.wet.getD i false = false → sec s.old i = sec s.b i
theorem splice_len {α : Type} (l : List α) (o : Nat) (x : List α) (h : o + x.length ≤ l.length) : (splice l o x).length = l.length := length_splice l o x h
theorem mem_splice {α : Type} {l : List α} {o : Nat} {x : List α} {y : α} (h : y ∈ splice l o x) : y ∈ l ∨ y ∈ x := by
  unfold splice at h
  rcases List.mem_append.1 h with h | h
  · exact .inl (List.mem_of_mem_take h)
  · rcases List.mem_append.1 h with h | h
    · exact .inr h
    · exact .inl (List.mem_of_mem_drop h)
theorem sec_len (b : By) (i : Nat) (h : (i + 1) * 16 ≤ b.length) : (sec b i).length = 16 := by
  unfold sec
  rw [List.length_take, List.length_drop]
  omega
theorem getElem?_splice {α : Type} (l : List α) (o : Nat) (x : List α) (h : o + x.length ≤ l.length) (j : Nat) : (splice l o x)[j]? = if o ≤ j ∧ j < o + x.length then x[j - o]? else l[j]? := by
  unfold splice
  by_cases c1 : j < o
  · rw [List.getElem?_append_left (by rw [List.length_take]; omega), List.getElem?_take, if_pos c1, if_neg (by omega)]
  · rw [List.getElem?_append_right (by rw [List.length_take]; omega), List.length_take, show min o l.length = o by omega]
    by_cases c2 : j < o + x.length
    · rw [List.getElem?_append_left (by omega), if_pos (by omega)]
    · rw [List.getElem?_append_right (by omega), List.getElem?_drop, if_neg (by omega)]
      congr 1
      omega
theorem sec_get (b : By) (i j : Nat) (hj : j < 16) : (sec b i)[j]? = b[i * 16 + j]? := by
  unfold sec
  rw [List.getElem?_take, if_pos hj, List.getElem?_drop]
theorem sec_ext {b c : By} {i : Nat} (h : ∀ j, j < 16 → b[i * 16 + j]? = c[i * 16 + j]?) : sec b i = sec c i := by
  apply List.ext_getElem?
  intro j
  by_cases hj : j < 16
  · rw [sec_get _ _ _ hj, sec_get _ _ _ hj, h j hj]
  · have e : ∀ b : By, (sec b i)[j]? = none := fun b => by
      unfold sec
      rw [List.getElem?_take, if_neg hj]
    rw [e, e]
/-- a splice leaves the sectors that it does not touch -/
theorem sec_splice {b x : By} {o i : Nat} (h : o + x.length ≤ b.length) (ht : touched o x.length i = false) : sec (splice b o x) i = sec b i := by
  refine sec_ext fun j hj => ?_
  rw [getElem?_splice b o x h, if_neg]
  intro ⟨h1, h2⟩
  have : touched o x.length i = true := by
    unfold touched
    simp only [Bool.and_eq_true, decide_eq_true_eq]
    omega
  rw [this] at ht; cases ht
theorem marks_len (wet : List Bool) (o n : Nat) : (marks wet o n).length = wet.length := by unfold marks; rw [List.length_mapIdx]
theorem marks_get (wet : List Bool) (o n i : Nat) (h : i < wet.length) : (marks wet o n).getD i false = (wet.getD i false || touched o n i) := by
  unfold marks
  rw [List.getD_eq_getElem?_getD, List.getElem?_mapIdx, List.getD_eq_getElem?_getD, List.getElem?_eq_getElem h]
  rfl
theorem within_iff {len : Nat} {a n : Int} (h : within len a n = true) : 0 ≤ a ∧ 0 ≤ n ∧ a ≤ len ∧ n ≤ len - a := by
  unfold within at h
  simpa only [Bool.and_eq_true, decide_eq_true_eq] using h
theorem tick_range {f : Int} (h : -1 ≤ f) (k : f ≤ 9223372036854775807) : -1 ≤ tick f ∧ tick f ≤ 9223372036854775807 := by unfold tick; omega
theorem repl_get (n i : Nat) : (List.replicate n false).getD i false = false := by
  rw [List.getD_eq_getElem?_getD, List.getElem?_replicate]
  split <;> rfl
section
variable {s : D}
theorem ok_down (h : Ok s) : Ok { s with down := true } := ⟨h.n1, h.n2, h.bl, h.ol, h.br, h.or_, h.fl, h.fu, h.clean⟩
theorem ok_write (h : Ok s) (a : Int) (x : By) (hx : ∀ y ∈ x, 0 ≤ y ∧ y ≤ 255) : Ok (s.write a x).1 := by
  unfold D.write
  split
  · exact ok_down h
  · split
    · next hw =>
      obtain ⟨w1, w2, w3, w4⟩ := within_iff hw
      have hfit : a.toNat + x.length ≤ s.b.length := by omega
      refine ⟨by show 1 ≤ (marks _ _ _).length; rw [marks_len]; exact h.n1, by show (marks _ _ _).length ≤ _; rw [marks_len]; exact h.n2, by show (splice _ _ _).length = (marks _ _ _).length * 16; rw [marks_len, splice_len _ _ _ hfit]; exact h.bl, by show s.old.length = (marks _ _ _).length * 16; rw [marks_len]; exact h.ol, fun y hy => ?_, h.or_, (tick_range h.fl h.fu).1, (tick_range h.fl h.fu).2, fun i hi hwi => ?_⟩
      · rcases mem_splice hy with e | e
        · exact h.br y e
        · exact hx y e
      · have hi' : i < s.wet.length := by
          have : i < (marks s.wet a.toNat x.length).length := hi
          rwa [marks_len] at this
        change (marks s.wet a.toNat x.length).getD i false = false at hwi
        rw [marks_get _ _ _ _ hi', Bool.or_eq_false_iff] at hwi
        show sec s.old i = sec (splice s.b a.toNat x) i
        rw [sec_splice hfit hwi.2]
        exact h.clean i hi' hwi.1
    · exact h
theorem ok_sync (h : Ok s) : Ok s.sync.1 := by
  unfold D.sync
  split
  · exact ok_down h
  · refine ⟨by show 1 ≤ (List.replicate _ _).length; rw [List.length_replicate]; exact h.n1, by show (List.replicate _ _).length ≤ _; rw [List.length_replicate]; exact h.n2, by show s.b.length = (List.replicate _ _).length * 16; rw [List.length_replicate]; exact h.bl, by show s.b.length = (List.replicate _ _).length * 16; rw [List.length_replicate]; exact h.bl, h.br, h.br, (tick_range h.fl h.fu).1, (tick_range h.fl h.fu).2, fun _ _ _ => rfl⟩
theorem ok_fused (h : Ok s) (n : Int) (hn : n ≤ 9223372036854775807) : Ok (s.fused n) := ⟨h.n1, h.n2, h.bl, h.ol, h.br, h.or_, by show -1 ≤ max n (-1); omega, by show max n (-1) ≤ _; omega, h.clean⟩
theorem restore_len (old : By) (keep : List Bool) : ∀ (l : List Nat) (k : Nat) (b : By), (∀ i ∈ l, (i + 1) * 16 ≤ b.length ∧ (i + 1) * 16 ≤ old.length) → (restore old keep l k b).length = b.length
  | [], _, _, _ => rfl
  | i :: l, k, b, h => by
    obtain ⟨h1, h2⟩ := h i (by simp)
    have hs : (if keep.getD k false then b else splice b (i * 16) (sec old i)).length = b.length := by
      split
      · rfl
      · exact splice_len _ _ _ (by rw [sec_len _ _ h2]; omega)
    show (restore old keep l (k + 1) _).length = _
    rw [restore_len old keep l (k + 1) _ (fun j hj => by rw [hs]; exact h j (by simp [hj])), hs]
theorem restore_mem (old : By) (keep : List Bool) : ∀ (l : List Nat) (k : Nat) (b : By) (y : Int), y ∈ restore old keep l k b → y ∈ b ∨ y ∈ old
  | [], _, _, y, h => .inl h
  | i :: l, k, b, y, h => by
    rcases restore_mem old keep l (k + 1) _ y h with e | e
    · split at e
      · exact .inl e
      · rcases mem_splice e with e | e
        · exact .inl e
        · exact .inr (List.mem_of_mem_drop (List.mem_of_mem_take e))
    · exact .inr e
theorem loose_mem {wet : List Bool} {i : Nat} (h : i ∈ loose wet) : i < wet.length ∧ wet.getD i false = true := by
  unfold loose at h
  rw [List.mem_filter, List.mem_range] at h
  exact ⟨h.1, by simpa using h.2⟩
theorem ok_fit (h : Ok s) {i : Nat} (hi : i < s.wet.length) : (i + 1) * 16 ≤ s.b.length ∧ (i + 1) * 16 ≤ s.old.length := by
  rw [h.bl, h.ol]
  constructor <;> omega
theorem crash_len (h : Ok s) (keep : List Bool) : (restore s.old keep (loose s.wet) 0 s.b).length = s.b.length := restore_len _ _ _ _ _ fun i hi => ok_fit h (loose_mem hi).1
theorem ok_crash (h : Ok s) (keep : List Bool) : Ok (s.crash keep) := by
  have hl := crash_len h keep
  have hm : ∀ y ∈ restore s.old keep (loose s.wet) 0 s.b, 0 ≤ y ∧ y ≤ 255 := fun y hy => by
    rcases restore_mem _ _ _ _ _ y hy with e | e
    · exact h.br y e
    · exact h.or_ y e
  unfold D.crash
  refine ⟨by show 1 ≤ (List.replicate _ _).length; rw [List.length_replicate]; exact h.n1, by show (List.replicate _ _).length ≤ _; rw [List.length_replicate]; exact h.n2, by show (restore _ _ _ _ _).length = (List.replicate _ _).length * 16; rw [List.length_replicate, hl]; exact h.bl, by show (restore _ _ _ _ _).length = (List.replicate _ _).length * 16; rw [List.length_replicate, hl]; exact h.bl, hm, hm, by show (-1 : Int) ≤ -1; omega, by show (-1 : Int) ≤ _; omega, fun _ _ _ => rfl⟩
theorem okLen_iff {n : Nat} (h : okLen n = true) : 0 < n ∧ n % 16 = 0 ∧ n ≤ 65536 := by
  unfold okLen at h
  simpa only [Bool.and_eq_true, decide_eq_true_eq, beq_iff_eq] using h
theorem ok_made {b : By} (h : okLen b.length = true) (hb : ∀ y ∈ b, 0 ≤ y ∧ y ≤ 255) : Ok (made b) := by
  obtain ⟨h1, h2, h3⟩ := okLen_iff h
  refine ⟨by show 1 ≤ (List.replicate _ _).length; rw [List.length_replicate]; omega, by show (List.replicate _ _).length ≤ _; rw [List.length_replicate]; omega, by show b.length = (List.replicate _ _).length * 16; rw [List.length_replicate]; omega, by show b.length = (List.replicate _ _).length * 16; rw [List.length_replicate]; omega, hb, hb, by show (-1 : Int) ≤ -1; omega, by show (-1 : Int) ≤ _; omega, fun _ _ _ => rfl⟩
end
end Go.Proofs.YtnobhjpobnmiaaaDoor.Sk
