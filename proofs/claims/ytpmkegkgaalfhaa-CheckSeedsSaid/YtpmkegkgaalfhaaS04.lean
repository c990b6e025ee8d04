/- The sum of check.Sum and of the document's answer as plain functions of a list of bytes, and what changes them. -/
import Derived.Test.YtpmkegkgaalfhaaQx1
namespace Go.Proofs.Ytpmkegkgaalfhaa.S04
open Go Go.RowKit Go.Proofs.Ytpmkegkgaalfhaa.Q Go.Proofs.Ytpmkegkgaalfhaa.New Go.Proofs.YtpmkegkgaalfhaaW.PrintWords Go.Proofs.YtpmkegkgaalfhaaW.PrintLast

/-- both numbers, step by step -/
def run : List Int → Int → Int → Int × Int
  | [], x, y => (x, y)
  | c :: l, x, y => run l ((x + c + 1) % 65521) ((y + (x + c + 1) % 65521) % 65521)
def sum (a : Int) (l : List Int) : Int := (run l ((a + 1) % 65521) 1).2 * 65536 + (run l ((a + 1) % 65521) 1).1

theorem run_lt (l : List Int) : ∀ x y : Int, 0 ≤ x → x < 65521 → 0 ≤ y → y < 65521 →
    0 ≤ (run l x y).1 ∧ (run l x y).1 < 65521 ∧ 0 ≤ (run l x y).2 ∧ (run l x y).2 < 65521 := by
  induction l with
  | nil => intro x y a b c d; exact ⟨a, b, c, d⟩
  | cons e l ih => intro x y a b c d; exact ih _ _ (by omega) (by omega) (by omega) (by omega)

theorem or_add (x y : Int) (x0 : 0 ≤ x) (x1 : x < 65521) (y0 : 0 ≤ y) (y1 : y < 65521) : Go.bits .or .u32 ((y * 65536) % 4294967296) x = y * 65536 + x := by
  have e : (y * 65536) % 4294967296 = y * 65536 := by omega
  rw [e]
  exact bits_join .u32 32 (by decide) (fun n h0 h1 => by rw [IntKind.wrap_u32]; omega) 16 (y * 65536) x (by omega) (by omega) (by omega) x0 (by omega) (by omega)

theorem wf_two {k : IntKind} {x : Int} (h : (Lit.int k x).wf = true) : k.min ≤ x ∧ x ≤ k.max := by
  simpa [Lit.wf] using h
theorem wf_u8 {x : Int} (h : (Lit.int .u8 x).wf = true) : 0 ≤ x ∧ x ≤ 255 := wf_two h
theorem wf_u16 {x : Int} (h : (Lit.int .u16 x).wf = true) : 0 ≤ x ∧ x ≤ 65535 := wf_two h
theorem wf_u32 {x : Int} (h : (Lit.int .u32 x).wf = true) : 0 ≤ x ∧ x ≤ 4294967295 := wf_two h
theorem wf_i64 {x : Int} (h : (Lit.int .i64 x).wf = true) : -9223372036854775808 ≤ x ∧ x ≤ 9223372036854775807 := wf_two h
theorem rd_at (l : List Int) (i : Nat) (h : i < l.length) : rd l (i : Int) = l[i] := by
  unfold rd; simp [h]
theorem drop_at (l : List Int) (i : Nat) (h : i < l.length) : l.drop i = rd l (i : Int) :: l.drop (i + 1) := by
  rw [rd_at l i h]; exact List.drop_eq_getElem_cons h

theorem step_x (x c : Int) (x0 : 0 ≤ x) (x1 : x < 65521) (hc : 0 ≤ c ∧ c ≤ 255) : (((x + c % 4294967296) % 4294967296 + 1) % 4294967296) % 65521 = (x + c + 1) % 65521 := by omega
theorem step_y (x c y : Int) (y0 : 0 ≤ y) (y1 : y < 65521) : ((y + (x + c + 1) % 65521) % 4294967296) % 65521 = (y + (x + c + 1) % 65521) % 65521 := by omega
theorem step_i (i : Nat) (h : i < 1000000) : wrap64 ((i : Int) + 1) = ((i + 1 : Nat) : Int) := by unfold wrap64; omega
theorem step_x' (x c : Int) (x0 : 0 ≤ x) (x1 : x < 65521) (hc : 0 ≤ c ∧ c ≤ 255) : Int.tmod (wrap64 (wrap64 (x + wrap64 c) + 1)) 65521 = (x + c + 1) % 65521 := by
  rw [show wrap64 c = c by unfold wrap64; omega, show wrap64 (x + c) = x + c by unfold wrap64; omega, show wrap64 (x + c + 1) = x + c + 1 by unfold wrap64; omega]
  exact Int.tmod_eq_emod_of_nonneg (by omega)
theorem step_y' (x c y : Int) (y0 : 0 ≤ y) (y1 : y < 65521) : Int.tmod (wrap64 (y + (x + c + 1) % 65521)) 65521 = (y + (x + c + 1) % 65521) % 65521 := by
  rw [show wrap64 (y + (x + c + 1) % 65521) = y + (x + c + 1) % 65521 by unfold wrap64; omega]
  exact Int.tmod_eq_emod_of_nonneg (by omega)

theorem sum_loop (l : List Int) (hl : l.length ≤ 1000000) (hb : ∀ x ∈ l, 0 ≤ x ∧ x ≤ 255) (d : Nat) : ∀ (k i : Nat) (x y : Int), 0 ≤ x → x < 65521 → 0 ≤ y → y < 65521 → l.length - i = d → i ≤ l.length → d < k →
    check_Sum.l0 k x y l (l.length : Int) (i : Int) = some ((run (l.drop i) x y).2 * 65536 + (run (l.drop i) x y).1) := by
  induction d with
  | zero =>
    intro k i x y x0 x1 y0 y1 hd hi hk
    obtain ⟨k, rfl⟩ : ∃ m, k = m + 1 := ⟨k - 1, by omega⟩
    have : i = l.length := by omega
    subst this
    simp only [check_Sum.l0]
    rw [if_neg (by omega), List.drop_length, or_add x y x0 x1 y0 y1]
    rfl
  | succ d ih =>
    intro k i x y x0 x1 y0 y1 hd hi hk
    obtain ⟨k, rfl⟩ : ∃ m, k = m + 1 := ⟨k - 1, by omega⟩
    have hlt : i < l.length := by omega
    have hc := hb (rd l (i : Int)) (by rw [rd_at l i hlt]; exact List.getElem_mem hlt)
    rw [drop_at l i hlt]
    simp only [check_Sum.l0, run]
    rw [if_pos (by omega), if_pos (by omega), if_pos (by omega)]
    generalize rd l (i : Int) = c at *
    rw [step_x x c x0 x1 hc, step_y x c y y0 y1, step_i i (by omega)]
    exact ih k (i + 1) _ _ (by omega) (by omega) (by omega) (by omega) (by omega) (by omega) (by omega)

theorem sum_f (a : Int) (a0 : 0 ≤ a) (a1 : a ≤ 65535) (l : List Int) (hl : l.length ≤ 1000000) (hb : ∀ x ∈ l, 0 ≤ x ∧ x ≤ 255) (k : Nat) (hk : l.length < k) : check_Sum.f k a l = some (sum a l) := by
  unfold check_Sum.f sum
  have e : ((a % 4294967296 + 1) % 4294967296) % 65521 = (a + 1) % 65521 := by omega
  rw [e]
  have := sum_loop l hl hb l.length k 0 ((a + 1) % 65521) 1 (by omega) (by omega) (by omega) (by omega) (by omega) (by omega) hk
  rw [List.drop_zero] at this
  exact this

theorem ref_loop (l : List Int) (hl : l.length ≤ 1000000) (hb : ∀ x ∈ l, 0 ≤ x ∧ x ≤ 255) (d : Nat) : ∀ (k i : Nat) (x y : Int), 0 ≤ x → x < 65521 → 0 ≤ y → y < 65521 → l.length - i = d → i ≤ l.length → d < k →
    cantonref04_Sum.l0 k l x y (i : Int) = some ((run (l.drop i) x y).2 * 65536 + (run (l.drop i) x y).1) := by
  induction d with
  | zero =>
    intro k i x y x0 x1 y0 y1 hd hi hk
    obtain ⟨k, rfl⟩ : ∃ m, k = m + 1 := ⟨k - 1, by omega⟩
    have : i = l.length := by omega
    subst this
    simp only [cantonref04_Sum.l0]
    rw [if_neg (by omega), List.drop_length]
    simp only [run]
    congr 1
    omega
  | succ d ih =>
    intro k i x y x0 x1 y0 y1 hd hi hk
    obtain ⟨k, rfl⟩ : ∃ m, k = m + 1 := ⟨k - 1, by omega⟩
    have hlt : i < l.length := by omega
    have hc := hb (rd l (i : Int)) (by rw [rd_at l i hlt]; exact List.getElem_mem hlt)
    rw [drop_at l i hlt]
    simp only [cantonref04_Sum.l0, run]
    rw [if_pos (by omega), if_pos (by omega)]
    generalize rd l (i : Int) = c at *
    rw [step_x' x c x0 x1 hc, step_y' x c y y0 y1, step_i i (by omega)]
    exact ih k (i + 1) _ _ (by omega) (by omega) (by omega) (by omega) (by omega) (by omega) (by omega)

theorem ref_f (a : Int) (a0 : 0 ≤ a) (a1 : a ≤ 65535) (l : List Int) (hl : l.length ≤ 1000000) (hb : ∀ x ∈ l, 0 ≤ x ∧ x ≤ 255) (k : Nat) (hk : l.length < k) : cantonref04_Sum.f k a l = some (sum a l) := by
  unfold cantonref04_Sum.f sum
  have e : wrap64 (wrap64 a + 1) = a + 1 := by unfold wrap64; omega
  rw [e, Int.tmod_eq_emod_of_nonneg (by omega)]
  have := ref_loop l hl hb l.length k 0 ((a + 1) % 65521) 1 (by omega) (by omega) (by omega) (by omega) (by omega) (by omega) hk
  rw [List.drop_zero] at this
  exact this

theorem newer_f (a b c d : Int) (ha : -9223372036854775808 ≤ a ∧ a ≤ 9223372036854775807) (hb : -9223372036854775808 ≤ b ∧ b ≤ 9223372036854775807) (hc : -9223372036854775808 ≤ c ∧ c ≤ 9223372036854775807) (hd : -9223372036854775808 ≤ d ∧ d ≤ 9223372036854775807) :
    check_Newer.f a b c d = some (newB a b c d) := by
  unfold check_Newer.f
  rw [if_pos ⟨by omega, by omega, by omega, by omega⟩]

theorem head_f (k : Nat) (hk : 3 < k) : cantonlaw04_head.f k = some true := by
  unfold cantonlaw04_head.f
  rw [sum_f 0 (by omega) (by omega) [] (by simp) (by simp) k (by simp; omega), sum_f 0 (by omega) (by omega) [0] (by simp) (by simp) k (by simp; omega)]
  rw [newer_f _ _ _ _ (by omega) (by omega) (by omega) (by omega), newer_f _ _ _ _ (by omega) (by omega) (by omega) (by omega), newer_f _ _ _ _ (by omega) (by omega) (by omega) (by omega)]
  rfl

/-- the first number alone -/
def tot : List Int → Int
  | [] => 0
  | c :: l => c + 1 + tot l
theorem run_fst (l : List Int) : ∀ x y : Int, (run l x y).1 % 65521 = (x + tot l) % 65521 := by
  induction l with
  | nil => intro x y; simp [run, tot]
  | cons c l ih => intro x y; simp only [run, tot]; rw [ih]; omega
theorem run_append (l m : List Int) : ∀ x y : Int, run (l ++ m) x y = run m (run l x y).1 (run l x y).2 := by
  induction l with
  | nil => intro x y; rfl
  | cons c l ih => intro x y; exact ih _ _
theorem run_fst_free (l : List Int) : ∀ x y y' : Int, (run l x y).1 = (run l x y').1 := by
  induction l with
  | nil => intro x y y'; rfl
  | cons c l ih => intro x y y'; exact ih _ _ _
/-- the second number goes with what it began with -/
theorem run_snd (l : List Int) : ∀ x y y' : Int, ((run l x y).2 - (run l x y').2) % 65521 = (y - y') % 65521 := by
  induction l with
  | nil => intro x y y'; rfl
  | cons c l ih => intro x y y'; simp only [run]; rw [ih]; omega
theorem tot_append (l m : List Int) : tot (l ++ m) = tot l + tot m := by
  induction l with
  | nil => simp [tot]
  | cons c l ih => simp only [List.cons_append, tot]; omega

theorem sum_eq (a b : Int) (l m : List Int) : sum a l = sum b m ↔ run l ((a + 1) % 65521) 1 = run m ((b + 1) % 65521) 1 := by
  have h1 := run_lt l ((a + 1) % 65521) 1 (by omega) (by omega) (by omega) (by omega)
  have h2 := run_lt m ((b + 1) % 65521) 1 (by omega) (by omega) (by omega) (by omega)
  unfold sum
  rw [Prod.ext_iff]
  omega

theorem sum_ne (a b : Int) (l m : List Int) (h : ((a + 1) + tot l) % 65521 ≠ ((b + 1) + tot m) % 65521) : sum a l ≠ sum b m := by
  intro e
  rw [sum_eq] at e
  have h1 := run_fst l ((a + 1) % 65521) 1
  have h2 := run_fst m ((b + 1) % 65521) 1
  rw [e] at h1
  omega

theorem tot_set (l : List Int) : ∀ (i : Nat) (v : Int), i < l.length → tot (l.set i v) = tot l - rd l (i : Int) + v := by
  induction l with
  | nil => intro i v h; simp at h
  | cons c l ih =>
    intro i v h
    cases i with
    | zero => simp [tot, rd]; omega
    | succ i =>
      have := ih i v (by simpa using h)
      simp only [List.set_cons_succ, tot, this]
      have e : rd (c :: l) ((i + 1 : Nat) : Int) = rd l (i : Int) := by
        rw [rd_at (c :: l) (i + 1) (by simpa using h), rd_at l i (by simpa using h)]; rfl
      rw [e]; omega

theorem sum_set (a : Int) (l : List Int) (i : Nat) (v : Int) (hi : i < l.length) (hv : 0 ≤ v ∧ v ≤ 255) (hb : ∀ x ∈ l, 0 ≤ x ∧ x ≤ 255) :
    (sum a (l.set i v) == sum a l) = (v == rd l (i : Int)) := by
  have hc := hb (rd l (i : Int)) (by rw [rd_at l i hi]; exact List.getElem_mem hi)
  by_cases e : v = rd l (i : Int)
  · have h1 : (v == rd l (i : Int)) = true := beq_iff_eq.2 e
    have h2 : l.set i v = l := by rw [e, rd_at l i hi]; exact List.set_getElem_self hi
    rw [h1, h2]; simp
  · have h1 : (v == rd l (i : Int)) = false := beq_eq_false_iff_ne.2 e
    rw [h1, beq_eq_false_iff_ne]
    apply sum_ne
    rw [tot_set l i v hi]
    omega

theorem set_bytes {l : List Int} (hb : ∀ x ∈ l, 0 ≤ x ∧ x ≤ 255) (i : Nat) {v : Int} (hv : 0 ≤ v ∧ v ≤ 255) : ∀ x ∈ l.set i v, 0 ≤ x ∧ x ≤ 255 := by
  intro x hx
  rcases List.mem_or_eq_of_mem_set hx with h | h
  · exact hb x h
  · rw [h]; exact hv

theorem sum_behind (a : Int) (l : List Int) : sum a (l ++ [0]) ≠ sum a l := by
  apply sum_ne
  rw [tot_append]
  simp only [tot]
  omega
theorem sum_ahead (a : Int) (l : List Int) : sum a ([0] ++ l) ≠ sum a l := by
  apply sum_ne
  rw [tot_append]
  simp only [tot]
  omega

theorem swap_list (p q : List Int) (x y : Int) : ((p ++ x :: y :: q).set p.length y).set (p.length + 1) x = p ++ y :: x :: q := by
  simp
theorem step_swap (X Y x y : Int) (h : (((Y + (X + x + 1) % 65521) % 65521 + ((X + x + 1) % 65521 + y + 1) % 65521) % 65521 - ((Y + (X + y + 1) % 65521) % 65521 + ((X + y + 1) % 65521 + x + 1) % 65521) % 65521) % 65521 = 0) : (x - y) % 65521 = 0 := by omega
theorem step_same (X x y : Int) : ((X + x + 1) % 65521 + y + 1) % 65521 = ((X + y + 1) % 65521 + x + 1) % 65521 := by omega

theorem sum_swap (a : Int) (p q : List Int) (x y : Int) (hx : 0 ≤ x ∧ x ≤ 255) (hy : 0 ≤ y ∧ y ≤ 255) :
    (sum a (p ++ y :: x :: q) == sum a (p ++ x :: y :: q)) = (x == y) := by
  by_cases e : x = y
  · subst e; simp
  · have h1 : (x == y) = false := beq_eq_false_iff_ne.2 e
    rw [h1, beq_eq_false_iff_ne, Ne, sum_eq]
    intro h
    rw [run_append, run_append] at h
    generalize (run p ((a + 1) % 65521) 1).1 = X at h
    generalize (run p ((a + 1) % 65521) 1).2 = Y at h
    simp only [run] at h
    rw [step_same X y x] at h
    have h2 := congrArg Prod.snd h
    have h3 := run_snd q (((X + x + 1) % 65521 + y + 1) % 65521) ((((Y + (X + x + 1) % 65521) % 65521) + ((X + x + 1) % 65521 + y + 1) % 65521) % 65521) ((((Y + (X + y + 1) % 65521) % 65521) + ((X + x + 1) % 65521 + y + 1) % 65521) % 65521)
    rw [h2, Int.sub_self] at h3
    rw [step_same X x y] at h3
    have h4 := step_swap X Y x y (by rw [step_same X x y]; exact h3.symm)
    omega

theorem sum_seeds (a b : Int) (ha : 0 ≤ a ∧ a < 65520) (hb : 0 ≤ b ∧ b < 65520) (l : List Int) : (sum a l == sum b l) = (a == b) := by
  by_cases e : a = b
  · subst e; simp
  · have h1 : (a == b) = false := beq_eq_false_iff_ne.2 e
    rw [h1, beq_eq_false_iff_ne]
    apply sum_ne
    omega
theorem tot_bound (l : List Int) (hb : ∀ x ∈ l, 0 ≤ x ∧ x ≤ 255) : (l.length : Int) ≤ tot l ∧ tot l ≤ 256 * l.length := by
  induction l with
  | nil => simp [tot]
  | cons c l ih =>
    have h1 := ih (fun x hx => hb x (List.mem_cons_of_mem _ hx))
    have h2 := hb c (List.mem_cons_self ..)
    simp only [tot, List.length_cons]
    omega
theorem sum_more (a : Int) (l m : List Int) (hm : m.length ≤ 60) (hb : ∀ x ∈ m, 0 ≤ x ∧ x ≤ 255) : (sum a (l ++ m) == sum a l) = ((m.length : Int) == 0) := by
  cases m with
  | nil => simp
  | cons c m =>
    have h1 : (((c :: m).length : Int) == 0) = false := by rw [beq_eq_false_iff_ne]; simp; omega
    rw [h1, beq_eq_false_iff_ne]
    apply sum_ne
    rw [tot_append]
    have := tot_bound (c :: m) hb
    simp only [List.length_cons] at this hm
    generalize tot (c :: m) = t at *
    omega
theorem app_bytes {l m : List Int} (hb : ∀ x ∈ l, 0 ≤ x ∧ x ≤ 255) (hm : ∀ x ∈ m, 0 ≤ x ∧ x ≤ 255) : ∀ x ∈ l ++ m, 0 ≤ x ∧ x ≤ 255 := by
  intro x hx
  rcases List.mem_append.1 hx with h | h
  · exact hb x h
  · exact hm x h
end Go.Proofs.Ytpmkegkgaalfhaa.S04
