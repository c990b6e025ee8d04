/- The walk of strings.IndexRune and ContainsRune at the letters that path.part names, for every rune. -/
import Derived.Test.YtclomgbiomojjaaShelf
import Derived.WalkKit
import Derived.WalkLawsBesides
import Derived.WalkSpells
import Derived.Deep.QuietTactic
import Derived.BigQuiet
import Derived.Lib.Hide
import Derived.KernelRfl
import Derived.WalkMore
import Derived.Laws.Runes
import Derived.Deep.LoopGhost
namespace Go.Proofs.Ytclomgbiomojjaa.Rune
open Go Go.RowKit Go.Shelf Go.Proofs

/-- letters of parts -/
def lettersL : List UInt8 := [97, 98, 99, 100, 101, 102, 103, 104, 105, 106, 107, 108, 109, 110, 111, 112, 113, 114, 115, 116, 117, 118, 119, 120, 121, 122, 48, 49, 50, 51, 52, 53, 54, 55, 56, 57, 45]
def S : ByteArray := ⟨lettersL.toArray⟩
theorem S_size : S.size = 37 := rfl
theorem S_lt (i : Nat) (h : i < S.size) : (S[i]'h).toNat < 128 := by
  have h2 : i < 37 := h
  have key : ∀ j : Fin 37, (lettersL.toArray[j.val]'(by exact j.2)).toNat < 128 := by decide
  exact key ⟨i, h2⟩
theorem S_all : ∀ c ∈ lettersL, c.toNat < 128 := by decide

theorem below_iter (w : World) (s : ByteArray) (pos : Nat) : Below w.heap.size w (w.iter s pos) := (Below.refl _ _).alloc (Nat.le_refl _) _

set_option maxRecDepth 100000 in
theorem bad (w : World) : Calls Try.prog 96 #[.string S, .int .i32 65533] w fun e w' => e = .returned (.int .i64 (-1)) ∧ Below w.heap.size w w' := by
  go_enter Try.func96, Try.ntmps96
  go_wp2_with fail
  go_loopw [4] (fun n w' => ∃ pos : Nat, w' = w.iter S pos ∧ n = .int .i64 0) (fun _ w' => 37 - w'.iterPos w.heap.size)
  case atStart => exact ⟨0, rfl, rfl⟩
  case round =>
    obtain ⟨pos, rfl, rfl⟩ := hrel
    by_cases hp : pos < S.size
    · have hnx : ∀ ty, (Instr.next (.pointer (some ⟨w.heap.size, 0, none⟩)) true ty).run Try.prog (w.iter S pos) = _ := fun ty => run_next_ascii w S pos ty hp (S_lt pos hp)
      have hne : (((S[pos]'hp).toNat : Int) == 65533) = false := by
        have := S_lt pos hp
        rw [beq_eq_false_iff_ne]; omega
      go_wp2
      go_roundw
      case rel => exact ⟨pos + 1, rfl, rfl⟩
      case measure =>
        have : pos < 37 := hp
        simp
        omega
    · have hnx : ∀ ty, (Instr.next (.pointer (some ⟨w.heap.size, 0, none⟩)) true ty).run Try.prog (w.iter S pos) = _ := fun ty => run_next_end w S pos ty hp
      go_wp2
      go_ret
      exact ⟨rfl, below_iter w S pos⟩

set_option maxRecDepth 100000 in
theorem odd (r : Int) (h0 : 128 ≤ r) (h1 : r ≤ 1114111) (h2 : (r == 65533) = false) (h3 : Lib.validRune r = false) (w : World) : Calls Try.prog 96 #[.string S, .int .i32 r] w fun e w' => e = .returned (.int .i64 (-1)) ∧ Below w.heap.size w w' := by
  have g1 : decide (r < 128) = false := by simp; omega
  go_enter Try.func96, Try.ntmps96
  go_wp2_with fail
  refine (Try.utf8_ValidRune r _).mono ?_
  rw [h3]
  rintro e w' ⟨rfl, rfl⟩
  go_wp2_with fail
  go_ret
  exact ⟨rfl, Below.refl _ _⟩

theorem cont_ge (n : Nat) (h : n < 64) : 128 ≤ (UInt8.ofNat (128 + n)).toNat := by
  rw [UInt8.toNat_ofNat']; omega
theorem enc_cases (r : Int) (h0 : 128 ≤ r) (h1 : r ≤ 1114111) :
    (∃ a b : UInt8, Utf8.encode r = ⟨#[a, b]⟩ ∧ 128 ≤ b.toNat) ∨ (∃ a b c : UInt8, Utf8.encode r = ⟨#[a, b, c]⟩ ∧ 128 ≤ c.toNat) ∨ (∃ a b c d : UInt8, Utf8.encode r = ⟨#[a, b, c, d]⟩ ∧ 128 ≤ d.toNat) := by
  unfold Utf8.encode
  have hc : 128 ≤ (if Utf8.valid r then r.toNat else Utf8.runeError) := by
    split
    · omega
    · decide
  generalize (if Utf8.valid r then r.toNat else Utf8.runeError) = c at *
  simp only
  rw [if_neg (by omega)]
  split
  · exact .inl ⟨_, _, rfl, cont_ge _ (Nat.mod_lt _ (by omega))⟩
  · split
    · exact .inr (.inl ⟨_, _, _, rfl, cont_ge _ (Nat.mod_lt _ (by omega))⟩)
    · exact .inr (.inr ⟨_, _, _, _, rfl, cont_ge _ (Nat.mod_lt _ (by omega))⟩)

theorem no_byte (c : UInt8) (hc : 128 ≤ c.toNat) (l : List UInt8) (hl : ∀ x ∈ l, x.toNat < 128) : Lib.indexByte l c = -1 := by
  induction l with
  | nil => rfl
  | cons x l ih =>
    have h1 := hl x (List.mem_cons_self ..)
    have h2 : (x == c) = false := by rw [beq_eq_false_iff_ne]; rintro rfl; omega
    have h3 := ih (fun y hy => hl y (List.mem_cons_of_mem _ hy))
    simp [Lib.indexByte, h2, h3]
theorem cut_mem (i : Nat) : ∀ x ∈ (S.extract i S.size).data.toList, x.toNat < 128 := by
  intro x hx
  refine S_all x ?_
  rw [Lib.extract_to_end] at hx
  exact List.mem_of_mem_drop hx
theorem no_more (i : Nat) (c : UInt8) (hc : 128 ≤ c.toNat) (w : World) :
    Calls Try.prog 55 #[.string (S.extract i S.size), .int .u8 (c.toNat : Int)] w fun e w' => e = .returned (.int .i64 (-1)) ∧ w' = w := by
  refine (Try.strings_IndexByte (S.extract i S.size) (c.toNat : Int) w).mono ?_
  rintro e w' ⟨rfl, rfl⟩
  rw [no_byte _ (by simpa using hc) _ (cut_mem i)]
  exact ⟨rfl, rfl⟩
theorem S_ne (i : Nat) (h : i < S.size) (c : UInt8) (hc : 128 ≤ c.toNat) : (((S[i]'h).toNat : Int) != (c.toNat : Int)) = true := by
  have := S_lt i h
  rw [bne_iff_ne]; omega

theorem quiet_add_same {P : Program} {f : FuncId} {args : Array Value} {w : World} {a n : Nat} {v : Value}
    (h : Calls P f args (w.drewN (a + n)) fun e w' => e = .returned v ∧ w' = w.drewN (a + n)) :
    Calls P f args (w.drewN (a + n)) fun e w'' => e = .returned v ∧ ∃ m, w'' = w.drewN (a + m) :=
  h.mono fun _ _ ⟨he, hm⟩ => ⟨he, n, hm⟩

set_option maxRecDepth 100000 in
theorem good2 (r : Int) (h0 : 128 ≤ r) (h1 : r ≤ 1114111) (h2 : (r == 65533) = false) (h3 : Lib.validRune r = true) (a b : UInt8) (he : Utf8.encode r = ⟨#[a, b]⟩) (hb : 128 ≤ b.toNat) (w : World) : Calls Try.prog 96 #[.string S, .int .i32 r] w fun e w' => e = .returned (.int .i64 (-1)) ∧ Below w.heap.size w w' := by
  have g1 : decide (r < 128) = false := by simp; omega
  have g2 : (1 : Int) < (S.size : Int) := by rw [S_size]; decide
  have g4 : (2 : Int) ≤ (S.size : Int) := by rw [S_size]; decide
  have g3 : ∀ (p : 1 < S.size) (q : 1 < (⟨#[a, b]⟩ : ByteArray).size), (((S[1]'p).toNat : Int) != (((⟨#[a, b]⟩ : ByteArray)[1]'q).toNat : Int)) = true := fun p _ => S_ne 1 p b hb
  go_enter Try.func96, Try.ntmps96
  go_wp2_with fail
  refine (Try.utf8_ValidRune r _).mono ?_
  rw [h3]
  rintro e w' ⟨rfl, rfl⟩
  go_wp2_with fail
  go_step3
  go_wp2_with fail
  refine wp_loop_rounds 1 ?_
  rw [rounds_succ]
  go_wp2_with fail
  go_step3
  go_wp2_with fail
  go_quiet (fail)
  go_wp2_with fail
  go_quiet ((go_at_call 55; exact quiet_add_same (no_more 2 b hb _)))
  go_wp2_with fail
  rw [Exit.noGoto_ret]
  go_wp2_with fail
  try rw [Exit.noGoto_ret]
  go_wp2_with fail
  go_ret
  exact ⟨rfl, below_drewNg _ _⟩

set_option maxRecDepth 100000 in
theorem good3 (r : Int) (h0 : 128 ≤ r) (h1 : r ≤ 1114111) (h2 : (r == 65533) = false) (h3 : Lib.validRune r = true) (a b c : UInt8) (he : Utf8.encode r = ⟨#[a, b, c]⟩) (hb : 128 ≤ c.toNat) (w : World) : Calls Try.prog 96 #[.string S, .int .i32 r] w fun e w' => e = .returned (.int .i64 (-1)) ∧ Below w.heap.size w w' := by
  have g1 : decide (r < 128) = false := by simp; omega
  have g2 : (2 : Int) < (S.size : Int) := by rw [S_size]; decide
  have g4 : (3 : Int) ≤ (S.size : Int) := by rw [S_size]; decide
  have g3 : ∀ (p : 2 < S.size) (q : 2 < (⟨#[a, b, c]⟩ : ByteArray).size), (((S[2]'p).toNat : Int) != (((⟨#[a, b, c]⟩ : ByteArray)[2]'q).toNat : Int)) = true := fun p _ => S_ne 2 p c hb
  go_enter Try.func96, Try.ntmps96
  go_wp2_with fail
  refine (Try.utf8_ValidRune r _).mono ?_
  rw [h3]
  rintro e w' ⟨rfl, rfl⟩
  go_wp2_with fail
  go_step3
  go_wp2_with fail
  refine wp_loop_rounds 1 ?_
  rw [rounds_succ]
  go_wp2_with fail
  go_step3
  go_wp2_with fail
  go_quiet (fail)
  go_wp2_with fail
  go_quiet ((go_at_call 55; exact quiet_add_same (no_more 3 c hb _)))
  go_wp2_with fail
  rw [Exit.noGoto_ret]
  go_wp2_with fail
  try rw [Exit.noGoto_ret]
  go_wp2_with fail
  go_ret
  exact ⟨rfl, below_drewNg _ _⟩

set_option maxRecDepth 100000 in
theorem good4 (r : Int) (h0 : 128 ≤ r) (h1 : r ≤ 1114111) (h2 : (r == 65533) = false) (h3 : Lib.validRune r = true) (a b c d : UInt8) (he : Utf8.encode r = ⟨#[a, b, c, d]⟩) (hb : 128 ≤ d.toNat) (w : World) : Calls Try.prog 96 #[.string S, .int .i32 r] w fun e w' => e = .returned (.int .i64 (-1)) ∧ Below w.heap.size w w' := by
  have g1 : decide (r < 128) = false := by simp; omega
  have g2 : (3 : Int) < (S.size : Int) := by rw [S_size]; decide
  have g4 : (4 : Int) ≤ (S.size : Int) := by rw [S_size]; decide
  have g3 : ∀ (p : 3 < S.size) (q : 3 < (⟨#[a, b, c, d]⟩ : ByteArray).size), (((S[3]'p).toNat : Int) != (((⟨#[a, b, c, d]⟩ : ByteArray)[3]'q).toNat : Int)) = true := fun p _ => S_ne 3 p d hb
  go_enter Try.func96, Try.ntmps96
  go_wp2_with fail
  refine (Try.utf8_ValidRune r _).mono ?_
  rw [h3]
  rintro e w' ⟨rfl, rfl⟩
  go_wp2_with fail
  go_step3
  go_wp2_with fail
  refine wp_loop_rounds 1 ?_
  rw [rounds_succ]
  go_wp2_with fail
  go_step3
  go_wp2_with fail
  go_quiet (fail)
  go_wp2_with fail
  go_quiet ((go_at_call 55; exact quiet_add_same (no_more 4 d hb _)))
  go_wp2_with fail
  rw [Exit.noGoto_ret]
  go_wp2_with fail
  try rw [Exit.noGoto_ret]
  go_wp2_with fail
  go_ret
  exact ⟨rfl, below_drewNg _ _⟩

theorem high (r : Int) (h0 : 128 ≤ r) (h1 : r ≤ 1114111) (w : World) : Calls Try.prog 96 #[.string S, .int .i32 r] w fun e w' => e = .returned (.int .i64 (-1)) ∧ Below w.heap.size w w' := by
  by_cases h2 : r = 65533
  · subst h2; exact bad w
  · have h2 : (r == 65533) = false := beq_eq_false_iff_ne.2 h2
    cases h3 : Lib.validRune r with
    | false => exact odd r h0 h1 h2 h3 w
    | true =>
      rcases enc_cases r h0 h1 with ⟨a, b, he, hb⟩ | ⟨a, b, c, he, hb⟩ | ⟨a, b, c, d, he, hb⟩
      · exact good2 r h0 h1 h2 h3 a b he hb w
      · exact good3 r h0 h1 h2 h3 a b c he hb w
      · exact good4 r h0 h1 h2 h3 a b c d he hb w

/-- is a rune one of the letters -/
def inS (x : Nat) : Bool := decide (x < 128) && lettersL.contains (UInt8.ofNat x)
theorem index_mem (l : List UInt8) (c : UInt8) : decide (0 ≤ Lib.indexByte l c) = l.contains c := by
  induction l with
  | nil => rfl
  | cons x l ih =>
    rw [List.contains_cons]
    by_cases h : x = c
    · subst h; simp [Lib.indexByte]
    · have h1 : (x == c) = false := beq_eq_false_iff_ne.2 h
      have h2 : (c == x) = false := beq_eq_false_iff_ne.2 (fun e => h e.symm)
      rw [h2, Bool.false_or, ← ih]
      simp only [Lib.indexByte, h1, Bool.false_eq_true, if_false]
      by_cases h3 : Lib.indexByte l c = -1
      · simp [h3]
      · have h4 : (Lib.indexByte l c == -1) = false := beq_eq_false_iff_ne.2 h3
        have h5 : -1 ≤ Lib.indexByte l c := Lib.indexByte_ge l c
        simp only [h4, Bool.false_eq_true, if_false]
        have e : (0 ≤ Lib.indexByte l c + 1) = (0 ≤ Lib.indexByte l c) := by
          apply propext; omega
        simp only [e]

theorem contains (x : Nat) (hx : x ≤ 1114111) (w : World) : Calls Try.prog 76 #[.string S, .int .i32 (x : Int)] w fun e w' => e = .returned (.bool (inS x)) ∧ Below w.heap.size w w' := by
  by_cases h : x < 128
  · refine (Try.strings_ContainsRune_ascii S (x : Int) w (by omega) (by omega)).mono ?_
    rintro e w' ⟨rfl, rfl⟩
    rw [index_mem]
    have e : inS x = lettersL.contains (UInt8.ofNat x) := by simp [inS, h]
    rw [e]
    exact ⟨rfl, Below.refl _ _⟩
  · have e : inS x = false := by simp [inS, h]
    rw [e]
    go_enter Try.func76, Try.ntmps76
    go_wp2_with fail
    refine (high (x : Int) (by omega) (by omega) _).mono ?_
    rintro e w' ⟨rfl, hb⟩
    have HB := Lib.hid hb
    clear hb
    go_wp2_with fail
    go_ret
    exact ⟨rfl, HB.out⟩

set_option maxRecDepth 100000 in
theorem closure (w : World) : PredGrows Try.prog 75 #[] (fun x => !inS x) w := fun W x hx _ => by
  have hc := contains x hx
  go_enter Try.func75, Try.ntmps75
  go_wp2_with fail
  refine (hc _).mono ?_
  rintro e w' ⟨rfl, hb⟩
  have HB := Lib.hid hb
  clear hb hc
  go_wp2_with fail
  go_ret
  exact ⟨rfl, HB.out⟩

/-- a byte that a part may hold -/
def okc (b : UInt8) : Bool := lettersL.contains b
/-- is a text a part -/
def partL (l : List UInt8) : Bool := !l.isEmpty && (decide (l.length ≤ 12) && l.all okc)

theorem okc_high (b : UInt8) (h : 128 ≤ b.toNat) : okc b = false := by
  unfold okc
  cases e : lettersL.contains b with
  | false => rfl
  | true =>
    have := S_all b (by simpa using e)
    omega
theorem inS_low (b : UInt8) (h : b.toNat < 128) : inS b.toNat = okc b := by
  simp [inS, okc, h]
theorem idx_from (s : ByteArray) : ∀ (f pos : Nat), s.size ≤ pos + f → decide (0 ≤ Lib.idxFuncFrom (fun x => !inS x) true s f pos) = !((s.data.toList.drop pos).all okc)
  | 0, pos, h => by
    have e : s.data.toList.drop pos = [] := List.drop_eq_nil_of_le (by simpa using h)
    rw [e]; rfl
  | f + 1, pos, h => by
    unfold Lib.idxFuncFrom
    by_cases hp : pos < s.size
    · rw [if_pos hp]
      have hd : s.data.toList.drop pos = s[pos]'hp :: s.data.toList.drop (pos + 1) := by
        rw [List.drop_eq_getElem_cons (by simpa using hp)]; rfl
      rw [hd, List.all_cons]
      by_cases ha : (s[pos]'hp).toNat < 128
      · rw [decode_ascii s pos hp ha]
        simp only [inS_low _ ha]
        cases hk : okc (s[pos]'hp) with
        | true =>
          rw [if_neg (by simp), idx_from s f (pos + 1) (by omega)]
          simp
        | false =>
          rw [if_pos (by simp)]
          simp
      · have hd2 := (decode_high s pos hp (by omega)).1
        have h3 : inS (Utf8.decode s pos).1 = false := by simp [inS]; omega
        rw [okc_high _ (by omega), h3, if_pos (by simp)]
        simp
    · rw [if_neg hp]
      have e : s.data.toList.drop pos = [] := List.drop_eq_nil_of_le (by simpa using hp)
      rw [e]; rfl
theorem idx_part (s : ByteArray) : decide (0 ≤ Lib.idxFunc (fun x => !inS x) true s) = !(s.data.toList.all okc) := by
  have := idx_from s s.size 0 (by omega)
  rw [List.drop_zero] at this
  exact this

theorem part_eq (s : ByteArray) (b : Bool) (h : s.data.toList.all okc = b) : partL s.data.toList = (!s.toList.isEmpty && (decide ((s.size : Int) ≤ 12) && b)) := by
  unfold partL
  rw [h, ByteArray.toList_eq]
  have : s.data.toList.length = s.size := by simp
  rw [this]
  have e : ((s.size : Int) ≤ 12) = (s.size ≤ 12) := by apply propext; omega
  simp only [e]

set_option maxRecDepth 100000 in
theorem part_calls (s : ByteArray) (w : World) : Calls Try.prog 56 #[.string s] w fun e w' => e = .returned (.bool (partL s.data.toList)) ∧ Below w.heap.size w w' := by
  have hC := Try.strings_ContainsFunc_grows 75 #[] (enters_of Try.func75 (by kernel_rfl) rfl) (fun x => !inS x) s
  rw [idx_part] at hC
  obtain ⟨b, hb⟩ : ∃ b, s.data.toList.all okc = b := ⟨_, rfl⟩
  rw [part_eq s b hb]
  rw [hb] at hC
  clear hb
  have HC := Lib.hid hC
  clear hC
  go_enter Try.func56, Try.ntmps56
  go_wp2_with fail
  refine (HC.out _ (closure _)).mono ?_
  rintro e w' ⟨rfl, hb⟩
  have HB := Lib.hid hb
  clear hb HC
  cases b
  all_goals
    go_wp2_with fail
    all_goals
      go_ret
      exact ⟨by first | rfl | (simp [*]; done) | (simp [*]; omega), HB.out⟩
end Go.Proofs.Ytclomgbiomojjaa.Rune
