/- The order of texts: plain facts (where path.In is not at hand: else XPathB). -/
import Derived.Test.YtclomgbiomojjaaLRgt
import Derived.Test.YtclomgbiomojjaaLKeys
import Derived.Test.YtclomgbiomojjaaIStr
import Derived.Test.YtclomgbiomojjaaCHold
import Derived.Test.YtclomgbiomojjaaOHold
import Derived.Test.YtclomgbiomojjaaNew
import Derived.Test.YtclomgbiomojjaaQx2
import Derived.BigQuiet
import Derived.Deep.QuietTactic
import Derived.Lib.Hide
import Derived.Lib.Bytealg
/- locks.Take: its predicates, the state of its first loop, and the steps of its map. -/
namespace Go.Proofs.Ytclomgbiomojjaa.LTk0
open Go Go.RowKit Go.Maps Go.Shelf Go.Proofs Go.Proofs.Ytclomgbiomojjaa.Q Go.Proofs.Ytclomgbiomojjaa.LRight Go.Proofs.Ytclomgbiomojjaa.PathF Go.Proofs.YtclomgbiomojjaaW.PrintWords Go.Proofs.YtclomgbiomojjaaW.PrintLast Go.Proofs.YtclomgbiomojjaaW.PrintMore
open Go.Proofs.Ytclomgbiomojjaa.LRgt (num num_is rightB)
set_option linter.unusedVariables false
set_option linter.unusedSimpArgs false

/-! ### the predicates -/
def oddP (d : ByteArray) : Bool := !isP d
set_option maxRecDepth 100000 in
theorem odd_is (l : List ByteArray) (w : World) : IStr.PredB 20 #[] oddP l w := fun W x _ _ => by
  unfold oddP
  have hc := fun W => path_Right.calls x (isP x) W (right_is x)
  obtain ⟨b, hb⟩ : ∃ b, isP x = b := ⟨_, rfl⟩
  rw [hb] at hc ⊢
  have HC := Lib.hid hc
  clear hc hb
  go_enter Try.func20, Try.ntmps20
  go_wp2_with fail
  refine (HC.out _).mono ?_
  rintro e w' ⟨rfl, hb⟩
  have HB := Lib.hid hb
  clear hb
  go_wp2_with fail
  go_ret
  exact ⟨rfl, HB.out⟩
def strP (t a : Int) (x : S34) : Bool := (x.f1 == t) && !(x.f2 == a)
set_option maxRecDepth 100000 in
theorem str_is (t a : Int) (b5 b6 : Nat) (l : List S34) (w : World) (h5 : w.cell? ⟨b5, 0, none⟩ = some (.int .i64 t)) (h6 : w.cell? ⟨b6, 0, none⟩ = some (.int .i64 a)) :
    IHold.PredB 23 #[.pointer (some ⟨b5, 0, none⟩), .pointer (some ⟨b6, 0, none⟩)] (strP t a) l w := fun W x _ hW => by
  have g5 := (hW.cell (World.block_lt_of_cell? w _ h5)).trans h5
  have g6 := (hW.cell (World.block_lt_of_cell? w _ h6)).trans h6
  clear h5 h6
  have k5 := pw_cell_below (below_alloc (Below.refl W.heap.size W) (.cells #[.string x.f0, .int .i64 x.f1, .int .i64 x.f2] 34)) g5
  have k6 := pw_cell_below (below_alloc (Below.refl W.heap.size W) (.cells #[.string x.f0, .int .i64 x.f1, .int .i64 x.f2] 34)) g6
  clear g5 g6
  unfold strP
  by_cases c1 : x.f1 = t
  · subst c1
    have hd : decide (x.f1 = x.f1) = true := by simp
    by_cases c2 : x.f2 = a
    · subst c2
      go_enter Try.func23, Try.ntmps23
      go_wp2_with fail
      go_ret
      exact ⟨by simp, below_alloc (Below.refl _ _) _⟩
    · go_enter Try.func23, Try.ntmps23
      go_wp2_with fail
      go_ret
      exact ⟨by simp [c2, bne], below_alloc (Below.refl _ _) _⟩
  · go_enter Try.func23, Try.ntmps23
    go_wp2_with fail
    go_ret
    exact ⟨by simp [c1], below_alloc (Below.refl _ _) _⟩
def cmpP (p : ByteArray) (x : S34) : Int := Lib.compareBytes x.f0.data.toList p.data.toList
theorem compare_is (a b : ByteArray) (w : World) : Calls Try.prog 32 #[.string a, .string b] w fun e w' => e = .returned (.int .i64 (Lib.compareBytes a.data.toList b.data.toList)) ∧ w = w' := by
  refine (Try.strings_Compare a b w).mono ?_
  rintro e w' ⟨rfl, rfl⟩
  exact ⟨rfl, rfl⟩
set_option maxRecDepth 100000 in
theorem cmp_below (p : ByteArray) (w : World) : BHold.CmpBelow 31 #[] p (cmpP p) w := fun W x _ => by
  unfold cmpP
  have hc := fun w => compare_is x.f0 p w
  obtain ⟨r, hr⟩ : ∃ r, Lib.compareBytes x.f0.data.toList p.data.toList = r := ⟨_, rfl⟩
  rw [hr] at hc ⊢
  have HC := Lib.hid hc
  clear hc hr
  go_enter Try.func31, Try.ntmps31
  go_wp2_with fail
  refine (HC.out _).mono ?_
  rintro e w' ⟨rfl, rfl⟩
  go_wp2_with fail
  go_ret
  exact ⟨rfl, (Below.refl _ _).alloc (Nat.le_refl _) _⟩
def at_ (p : ByteArray) (l : List S34) : Nat := BHold.bs (cmpP p) l l.length 0 l.length
theorem bs_le (cmp : S34 → Int) (l : List S34) : ∀ (k i j : Nat), i ≤ j → BHold.bs cmp l k i j ≤ j
  | 0, i, j, h => h
  | k + 1, i, j, h => by
    unfold BHold.bs
    by_cases hlt : i < j
    · rw [if_pos hlt]
      by_cases hc : cmp (rd_T34 l ((i + j) / 2 : Nat)) < 0
      · rw [if_pos hc]; exact bs_le cmp l k _ _ (by omega)
      · rw [if_neg hc]; exact Nat.le_trans (bs_le cmp l k _ _ (by omega)) (by omega)
    · rw [if_neg hlt]; exact h
theorem at_le (p : ByteArray) (l : List S34) : at_ p l ≤ l.length := bs_le _ _ _ _ _ (Nat.zero_le _)
def own_ (p : ByteArray) (l : List S34) : Bool := BHold.bsB (cmpP p) l (at_ p l)
theorem find_calls (A : Option Addr) (c : Nat) (l : List S34) (p : ByteArray) (w : World) (hr : Kd.C k34 w A l.length l) (hl : l.length ≤ 4611686018427387904) :
    Calls Try.prog 30 #[.slice A l.length c, .string p, .func (.func 31) #[] #[]] w fun e w' => e = .returned (.tuple #[.int .i64 (at_ p l : Nat), .bool (own_ p l)]) ∧ Below w.heap.size w w' :=
  BHold.bs_calls 31 #[] (enters_of Try.func31 (by kernel_rfl) rfl) p (cmpP p) A c l w (cmp_below p w) hr hl
/-! ### is a text among some? -/
def hasB (l : List ByteArray) (s : ByteArray) : Bool := l.any fun d => s.toList == d.toList
theorem rdS (l : List ByteArray) (i : Nat) (h : i < l.length) : rdOf ByteArray.empty l (i : Int) = l[i] := by
  unfold rdOf; simp [h]
theorem index_is (l : List ByteArray) (s : ByteArray) (hl : l.length ≤ 1000000) : ∀ (n i k : Nat), i + n = l.length → n < k → ∃ r, slices_Index_string_string.l0 k l s (l.length : Int) (i : Int) = some r ∧ decide (r ≥ 0) = hasB (l.drop i) s
  | 0, i, 0, _, hk => absurd hk (by omega)
  | 0, i, k + 1, h, _ => by
    unfold slices_Index_string_string.l0
    rw [if_neg (by omega), List.drop_eq_nil_of_le (by omega)]
    exact ⟨-1, rfl, rfl⟩
  | n + 1, i, 0, _, hk => absurd hk (by omega)
  | n + 1, i, k + 1, h, hk => by
    have hi : i < l.length := by omega
    have hw : wrap64 ((i : Int) + 1) = ((i + 1 : Nat) : Int) := by unfold wrap64; omega
    unfold slices_Index_string_string.l0
    rw [if_pos (by omega), if_pos (by omega), if_pos (by omega), rdS l i hi, List.drop_eq_getElem_cons hi, hw]
    unfold hasB
    rw [List.any_cons]
    by_cases c : s.toList = l[i].toList
    · rw [if_pos c]
      exact ⟨i, rfl, by simp [c]⟩
    · rw [if_neg c]
      obtain ⟨r, h1, h2⟩ := index_is l s hl n (i + 1) k (by omega) (by omega)
      refine ⟨r, h1, ?_⟩
      rw [h2]
      have : (s.toList == l[i].toList) = false := by simpa using c
      rw [this]
      rfl
theorem has_is (l : List ByteArray) (s : ByteArray) (hl : l.length ≤ 1000000) : slices_Contains_string_string.f (l.length + 1) l s = some (hasB l s) := by
  obtain ⟨r, h1, h2⟩ := index_is l s hl l.length 0 (l.length + 1) (by omega) (by omega)
  unfold slices_Contains_string_string.f slices_Index_string_string.f
  rw [show (0 : Int) = ((0 : Nat) : Int) from rfl, h1, Option.bind_some, show ((0 : Nat) : Int) = 0 from rfl, h2]
  rfl
/-! ### the map of the wounded -/
theorem u3 : Try.prog.underlying 3 = some (.int .i64) := by kernel_rfl
theorem u51 : Try.prog.underlying 51 = some (.map 2 3) := by kernel_rfl
theorem zero3 (w : World) : (zeroValue 3).run Try.prog w = .ok (.int .i64 0) w := by kernel_rfl
abbrev OW (w : World) (B n : Nat) (D : Dm) : Prop := w.ownsMap Try.prog 2 (plainElem Try.prog 3) B n D
theorem ow_below {w W : World} {B n : Nat} {D : Dm} (h : OW w B n D) (hb : Below w.heap.size w W) : OW W B n D := by
  have hlt := h.lt
  obtain ⟨es, clock, h0, F, hs, hD⟩ := h
  exact ⟨es, clock, (hb.block _ hlt).trans h0, F, hs, hD⟩
section
variable {ops : Array Oper} {rest : List Oper} {o : Oper} {a : Act} {Q : Exit → Act → World → Prop}
theorem lookw_step {W : World} (hg : o.guard = none) (m x : Operand) (hop : o.op = Op.lookup 51 m x false) {B n : Nat} {D : Dm} {t c : Int} (hm : a.eval m = .map (some B)) (hown : OW W B n D)
    (hx : a.eval x = .int .i64 t) (hw : (Lit.int .i64 t).wf = true) (h5 : cOf D t = c) (h : wpList Try.prog ops Q rest (a.put o.dst (.int .i64 c)) W) : wpList Try.prog ops Q (o :: rest) a W := by
  refine wpList_lookup_own_int W hg m x 51 hop 2 3 .i64 law2 u51 u3 (zero3 _) B n D hm hown _ _ hx (keyOf_int_mk u2 hw) ?_
  intro c' hat hwc
  unfold cOf at h5
  rw [hat] at h5
  cases h5
  exact h
theorem updw_step {W : World} (hg : o.guard = none) (m x v : Operand) (hop : o.op = Op.mapUpdate 51 m x v) {B n : Nat} {D : Dm} {t c : Int} (hm : a.eval m = .map (some B)) (hown : OW W B n D) (hn : n < maxLen)
    (hx : a.eval x = .int .i64 t) (hv : a.eval v = .int .i64 c) (hw : (Lit.int .i64 t).wf = true) (hwc : (Lit.int .i64 c).wf = true)
    (h : ∀ w', OW w' B (n + 1) (D.put (.int .i64 t) (.lit (.int .i64 c))) → W.grownBy w' (some B) → wpList Try.prog ops Q rest (a.put o.dst undef) w') : wpList Try.prog ops Q (o :: rest) a W :=
  wpList_mapUpdate_own W hg m x v 51 hop 2 3 law2 u51 _ B n D hm hown hn _ _ _ hx hv (keyOf_int_mk u2 hw) _ [] (plainElem_int u3 hwc) h
end
theorem wf_inv {n : Int} (h : (Lit.int .i64 n).wf = true) : -9223372036854775808 ≤ n ∧ n ≤ 9223372036854775807 := by
  simp [Lit.wf, IntKind.min, IntKind.max, IntKind.signed, IntKind.bits] at h
  omega
theorem wf_wrap (x : Int) : (Lit.int .i64 (wrap64 x)).wf = true := by
  have : -9223372036854775808 ≤ wrap64 x ∧ wrap64 x ≤ 9223372036854775807 := by unfold wrap64; omega
  exact WalkArith.wf_i64 this
/-! ### the first loop's state -/
def bump (D : Dm) (t : Int) : Dm := D.put (.int .i64 t) (.lit (.int .i64 (wrap64 (cOf D t + 1))))
def askB (a1 : Int) (l3 : List ByteArray) (x : S34) : Bool := !(x.f1 == a1) && hasB l3 x.f0
def stepW (a1 a2 : Int) (l3 : List ByteArray) (s : Bool × Dm) (x : S34) : Bool × Dm :=
  if askB a1 l3 x = true then (false, if New.newB x.f2 x.f1 a2 a1 = true then bump s.2 x.f1 else s.2) else s
def stW (a1 a2 : Int) (l3 : List ByteArray) (l : List S34) : Bool × Dm := l.foldl (stepW a1 a2 l3) (true, .map [])
theorem stW_snoc (a1 a2 : Int) (l3 : List ByteArray) (l : List S34) (i : Nat) (h : i < l.length) : stW a1 a2 l3 (l.take (i + 1)) = stepW a1 a2 l3 (stW a1 a2 l3 (l.take i)) (rd_T34 l (i : Int)) := by
  have hr : rd_T34 l (i : Int) = l[i] := by unfold rd_T34; simp [h]
  rw [List.take_succ_eq_append_getElem h, hr]
  unfold stW
  rw [List.foldl_append]
  rfl
theorem sort_perm {a b : List Int} (h : a.Perm b) : (a.mergeSort fun x y => decide (x ≤ y)) = (b.mergeSort fun x y => decide (x ≤ y)) := by
  have s : ∀ l : List Int, (l.mergeSort fun x y => decide (x ≤ y)).Pairwise (fun x y => x ≤ y) := fun l => by
    have := List.pairwise_mergeSort (le := fun (x y : Int) => decide (x ≤ y)) (fun a b c h1 h2 => by simp only [decide_eq_true_eq] at *; omega) (fun a b => by simp only [Bool.or_eq_true, decide_eq_true_eq]; omega) l
    exact this.imp (fun h => of_decide_eq_true h)
  exact List.Perm.eq_of_pairwise (fun x y _ _ h1 h2 => by omega) (s a) (s b) ((List.mergeSort_perm _ _).trans (h.trans (List.mergeSort_perm _ _).symm))
/-! ### the second loop's state -/
def insT (a1 a2 : Int) (out : List S34) (d : ByteArray) : List S34 := if own_ d out = true then out else out.take (at_ d out) ++ [⟨d, a1, a2⟩] ++ out.drop (at_ d out)
def insAll (a1 a2 : Int) (out : List S34) (ds : List ByteArray) : List S34 := ds.foldl (insT a1 a2) out
theorem insAll_snoc (a1 a2 : Int) (out : List S34) (ds : List ByteArray) (i : Nat) (h : i < ds.length) : insAll a1 a2 out (ds.take (i + 1)) = insT a1 a2 (insAll a1 a2 out (ds.take i)) (rdOf ByteArray.empty ds (i : Int)) := by
  rw [List.take_succ_eq_append_getElem h, rdS ds i h]
  unfold insAll
  rw [List.foldl_append]
  rfl
theorem insT_len (a1 a2 : Int) (out : List S34) (d : ByteArray) : (insT a1 a2 out d).length ≤ out.length + 1 := by
  unfold insT
  split
  · omega
  · have := at_le d out
    simp
    omega
theorem insAll_len (a1 a2 : Int) : ∀ (ds : List ByteArray) (out : List S34), (insAll a1 a2 out ds).length ≤ out.length + ds.length
  | [], out => Nat.le_refl _
  | d :: ds, out => by
    have h1 := insAll_len a1 a2 ds (insT a1 a2 out d)
    have h2 := insT_len a1 a2 out d
    show (insAll a1 a2 (insT a1 a2 out d) ds).length ≤ _
    simp only [List.length_cons]
    omega
end Go.Proofs.Ytclomgbiomojjaa.LTk0
namespace Go.Proofs.Ytclomgbiomojjaa.PathF
open Go Go.RowKit Go.Proofs.Ytclomgbiomojjaa.Rune Go.Proofs.Ytclomgbiomojjaa.Split Go.Proofs.Ytclomgbiomojjaa.PathT Go.Proofs.Ytclomgbiomojjaa.Q

/-! The order of texts. -/
def lessB (a b : ByteArray) : Bool := Op.bytesLess a.toList b.toList
theorem less_irrefl : ∀ a : List UInt8, Op.bytesLess a a = false
  | [] => rfl
  | c :: a => by simp [Op.bytesLess, less_irrefl a]
theorem less_trans : ∀ {a b c : List UInt8}, Op.bytesLess a b = true → Op.bytesLess b c = true → Op.bytesLess a c = true
  | _, [], _, h, _ => by cases ‹List UInt8› <;> simp [Op.bytesLess] at h
  | _, _ :: _, [], _, h => by simp [Op.bytesLess] at h
  | [], _ :: _, _ :: _, _, _ => rfl
  | x :: a, y :: b, z :: c, h1, h2 => by
    simp only [Op.bytesLess, Bool.or_eq_true, decide_eq_true_eq, Bool.and_eq_true, beq_iff_eq] at h1 h2 ⊢
    rcases h1 with h1 | ⟨rfl, h1⟩
    · rcases h2 with h2 | ⟨rfl, h2⟩
      · exact .inl (UInt8.lt_trans h1 h2)
      · exact .inl h1
    · rcases h2 with h2 | ⟨rfl, h2⟩
      · exact .inl h2
      · exact .inr ⟨rfl, less_trans h1 h2⟩
theorem less_total : ∀ {a b : List UInt8}, Op.bytesLess a b = false → Op.bytesLess b a = false → a = b
  | [], [], _, _ => rfl
  | [], _ :: _, h, _ => by simp [Op.bytesLess] at h
  | _ :: _, [], _, h => by simp [Op.bytesLess] at h
  | x :: a, y :: b, h1, h2 => by
    simp only [Op.bytesLess, Bool.or_eq_false_iff, decide_eq_false_iff_not, Bool.and_eq_false_iff, beq_eq_false_iff_ne] at h1 h2
    have e : x = y := by
      have h3 := h1.1
      have h4 := h2.1
      apply UInt8.toNat_inj.1
      rw [UInt8.lt_iff_toNat_lt] at h3 h4
      omega
    subst e
    have h5 : Op.bytesLess a b = false := by
      rcases h1.2 with h | h
      · exact absurd rfl h
      · exact h
    have h6 : Op.bytesLess b a = false := by
      rcases h2.2 with h | h
      · exact absurd rfl h
      · exact h
    rw [less_total h5 h6]
theorem cmp_less : ∀ a b : List UInt8, (Lib.compareBytes a b < 0 ↔ Op.bytesLess a b = true) ∧ (Lib.compareBytes a b = 0 ↔ a = b)
  | [], [] => by simp [Lib.compareBytes, Op.bytesLess]
  | [], _ :: _ => by simp [Lib.compareBytes, Op.bytesLess]
  | _ :: _, [] => by simp [Lib.compareBytes, Op.bytesLess]
  | x :: a, y :: b => by
    have ih := cmp_less a b
    unfold Lib.compareBytes Op.bytesLess
    by_cases h1 : x < y
    · have : x ≠ y := fun e => by subst e; exact absurd h1 (UInt8.lt_irrefl x)
      simp [h1, this]
    · by_cases h2 : y < x
      · have : x ≠ y := fun e => by subst e; exact absurd h2 (UInt8.lt_irrefl x)
        simp [h1, h2, this]
      · have e : x = y := by
          apply UInt8.toNat_inj.1
          rw [UInt8.lt_iff_toNat_lt] at h1 h2
          omega
        subst e
        simpa [UInt8.lt_irrefl] using ih
theorem lessB_irrefl (a : ByteArray) : lessB a a = false := less_irrefl _
theorem lessB_trans {a b c : ByteArray} (h1 : lessB a b = true) (h2 : lessB b c = true) : lessB a c = true := less_trans h1 h2
theorem lessB_total {a b : ByteArray} (h1 : lessB a b = false) (h2 : lessB b a = false) : a = b := by
  have := less_total h1 h2
  rw [toL, toL] at this
  exact L_inj this
theorem lessB_ne {a b : ByteArray} (h : lessB a b = true) : a ≠ b := fun e => by rw [e, lessB_irrefl] at h; cases h
theorem lessB_asymm {a b : ByteArray} (h : lessB a b = true) : lessB b a = false := by
  cases h2 : lessB b a with
  | false => rfl
  | true =>
    have := lessB_trans h h2
    rw [lessB_irrefl] at this
    cases this
end Go.Proofs.Ytclomgbiomojjaa.PathF
