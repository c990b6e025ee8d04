/- A log, without memory: numbers as bytes, sums, heads, signs. -/
import Derived.Test.YtnobhjpobnmiaaaDoorSk9
import Derived.Test.YtnobhjpobnmiaaaDoorSk0
import Derived.Laws.BitsLemmas
/- Rows of bytes, byte by byte. -/
namespace Go.Proofs.YtnobhjpobnmiaaaDoor.Sk
open Go Go.RowKit Go.Maps Go.Proofs Go.Proofs.YtnobhjpobnmiaaaDoorW.PrintWords Go.Proofs.YtnobhjpobnmiaaaDoorW.PrintLast Go.Proofs.YtnobhjpobnmiaaaDoorW.PrintMore
set_option linter.unusedVariables false
set_option linter.unusedSimpArgs false

theorem Row.frozen {W : World} {g cap : Nat} {b : By} (h : Row W g cap b) (j : Nat) : W.frozen? ⟨g, j, none⟩ = false := by
  obtain ⟨ext, h1, _⟩ := h
  exact blk_frozen h1 j
theorem Row.lt {W : World} {g cap : Nat} {b : By} (h : Row W g cap b) : g < W.heap.size := by
  obtain ⟨ext, h1, _⟩ := h
  exact blk_lt h1
theorem Row.put {W : World} {g cap : Nat} {b : By} (h : Row W g cap b) (j : Nat) (hj : j < b.length) (v : Int) : Row (W.setCell ⟨g, j, none⟩ (.int .u8 v)) g cap (b.set j v) := by
  obtain ⟨ext, h1, h2⟩ := h
  refine ⟨ext, ?_, by rw [List.length_set]; exact h2⟩
  rw [blk_set h1 j]
  congr 2
  unfold enc
  rw [List.setIfInBounds_toArray, List.set_append_left _ _ (by simpa using hj), List.map_set]
theorem splice_more (b x : By) (k i : Nat) (v : Int) (h : k + x.length ≤ b.length) (hi : x[i]? = some v) : (splice b k (x.take i)).set (k + i) v = splice b k (x.take (i + 1)) := by
  have hil := (List.getElem?_eq_some_iff.1 hi).1
  have e1 : (x.take i).length = i := by rw [List.length_take]; omega
  have e2 : (x.take (i + 1)).length = i + 1 := by rw [List.length_take]; omega
  apply List.ext_getElem?
  intro j
  rw [List.getElem?_set, getElem?_splice _ _ _ (by omega), splice_len _ _ _ (by omega), getElem?_splice _ _ _ (by omega)]
  rw [e1, e2]
  by_cases c : k + i = j
  · subst c
    rw [if_pos rfl, if_pos (by omega), if_pos (by omega), List.getElem?_take, if_pos (by omega), show k + i - k = i by omega, hi]
  · rw [if_neg c]
    by_cases c2 : k ≤ j ∧ j < k + i
    · rw [if_pos c2, if_pos (by omega), List.getElem?_take, if_pos (by omega), List.getElem?_take, if_pos (by omega)]
    · rw [if_neg c2, if_neg (by omega)]
theorem splice_nil (b : By) (k : Nat) : splice b k [] = b := by
  unfold splice
  simp
end Go.Proofs.YtnobhjpobnmiaaaDoor.Sk
namespace Go.Proofs.YtnobhjpobnmiaaaDoor.Wl
open Go Go.RowKit Go.Proofs.YtnobhjpobnmiaaaDoor.Sk
set_option linter.unusedVariables false
set_option linter.unusedSimpArgs false

/-- a number's four bytes, the highest first -/
def four (n : Int) : By := [n / 16777216 % 256, n / 65536 % 256, n / 256 % 256, n % 256]
/-- the number of bytes -/
def num (b : By) : Int := b.foldl (fun n c => n * 256 % 4294967296 + c) 0
theorem num_four {n : Int} (h : 0 ≤ n) (k : n ≤ 4294967295) : num (four n) = n := by
  unfold num four
  simp only [List.foldl]
  omega
theorem num_snoc (b : By) (c : Int) : num (b ++ [c]) = num b * 256 % 4294967296 + c := by
  unfold num
  rw [List.foldl_append]
  rfl
theorem num_range (b : By) (h : ∀ y ∈ b, 0 ≤ y ∧ y ≤ 255) : 0 ≤ num b ∧ num b ≤ 4294967295 := by
  unfold num
  have : ∀ (l : By) (n : Int), (∀ y ∈ l, 0 ≤ y ∧ y ≤ 255) → 0 ≤ n ∧ n ≤ 4294967295 → 0 ≤ l.foldl (fun n c => n * 256 % 4294967296 + c) n ∧ l.foldl (fun n c => n * 256 % 4294967296 + c) n ≤ 4294967295 := fun l => by
    induction l with
    | nil => intro n _ h; exact h
    | cons c l ih =>
      intro n hl hn
      have hc := hl c (by simp)
      exact ih (n * 256 % 4294967296 + c) (fun y hy => hl y (by simp [hy])) (by omega)
  exact this b 0 h (by omega)
theorem or_byte (x c : Int) (hc : 0 ≤ c ∧ c ≤ 255) : Go.bits .or .u32 (x * 256 % 4294967296) c = x * 256 % 4294967296 + c :=
  bits_join .u32 32 (by decide) (fun n h0 h1 => by rw [IntKind.wrap_u32]; omega) 8 (x * 256 % 4294967296) c (by omega) (by omega) (by omega) hc.1 (by omega) (by omega)
theorem or_add (x y : Int) (x0 : 0 ≤ x) (x1 : x < 65521) (y0 : 0 ≤ y) (y1 : y < 65521) : Go.bits .or .u32 ((y * 65536) % 4294967296) x = y * 65536 + x := by
  have e : (y * 65536) % 4294967296 = y * 65536 := by omega
  rw [e]
  exact bits_join .u32 32 (by decide) (fun n h0 h1 => by rw [IntKind.wrap_u32]; omega) 16 (y * 65536) x (by omega) (by omega) (by omega) x0 (by omega) (by omega)
/-- both numbers of a sum, step by step -/
def run : By → Int → Int → Int × Int
  | [], x, y => (x, y)
  | c :: l, x, y => run l ((x + c + 1) % 65521) ((y + (x + c + 1) % 65521) % 65521)
def sum (a : Int) (l : By) : Int := (run l ((a + 1) % 65521) 1).2 * 65536 + (run l ((a + 1) % 65521) 1).1
theorem run_lt (l : By) : ∀ x y : Int, 0 ≤ x → x < 65521 → 0 ≤ y → y < 65521 → 0 ≤ (run l x y).1 ∧ (run l x y).1 < 65521 ∧ 0 ≤ (run l x y).2 ∧ (run l x y).2 < 65521 := by
  induction l with
  | nil => intro x y a b c d; exact ⟨a, b, c, d⟩
  | cons e l ih => intro x y a b c d; exact ih _ _ (by omega) (by omega) (by omega) (by omega)
theorem run_snoc (l : By) (c : Int) : ∀ x y, run (l ++ [c]) x y = (((run l x y).1 + c + 1) % 65521, ((run l x y).2 + ((run l x y).1 + c + 1) % 65521) % 65521) := by
  induction l with
  | nil => intro x y; rfl
  | cons e l ih => intro x y; exact ih _ _
theorem sum_range (a : Int) (ha : 0 ≤ a) (l : By) : 0 ≤ sum a l ∧ sum a l ≤ 4294967295 := by
  have := run_lt l ((a + 1) % 65521) 1 (by omega) (by omega) (by omega) (by omega)
  unfold sum
  omega
def half (n : Nat) : Nat := (n / 16 - 1) / 2
def need (n : Nat) : Nat := 1 + (n + 15) / 16
def sign (a : Int) : By := [87, a, 0, 0, 0, 0, 0, 0, 0, 0, 0, 0, 0, 0, 0, 0]
/-- a record's head -/
def hd (k : Nat) (b : By) : By := 82 :: (four k ++ (four b.length ++ (four (sum ((k : Int) % 65536) b) ++ [0, 0, 0])))
theorem hd_len (k : Nat) (b : By) : (hd k b).length = 16 := rfl
end Go.Proofs.YtnobhjpobnmiaaaDoor.Wl
