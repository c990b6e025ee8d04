/- locks.Right in closed words: may these be held? -/
import Derived.Test.YtclomgbiomojjaaPath0
import Derived.Test.YtclomgbiomojjaaQx2
import Derived.KernelRfl
import Derived.Test.YtclomgbiomojjaaLRight
import Derived.Maps.Views
/- What the printed functions path.Right and path.In answer, in lists of parts (any seat). -/
namespace Go.Proofs.Ytclomgbiomojjaa.PathF
open Go Go.RowKit Go.Proofs.Ytclomgbiomojjaa.Rune Go.Proofs.Ytclomgbiomojjaa.Split Go.Proofs.Ytclomgbiomojjaa.PathT Go.Proofs.Ytclomgbiomojjaa.Q Go.Proofs.YtclomgbiomojjaaW.PrintWords Go.Proofs.YtclomgbiomojjaaW.PrintLast Go.Proofs.YtclomgbiomojjaaW.PrintMore

theorem L_inj {a b : ByteArray} (h : L a = L b) : a = b := by rw [← BL a, ← BL b, h]
theorem L_len (a : ByteArray) : (L a).length = a.size := by simp [L]
theorem toL (a : ByteArray) : a.toList = L a := ByteArray.toList_eq ..
theorem L_drop (s : ByteArray) (a : Nat) : L (s.extract a s.size) = (L s).drop a := Lib.extract_to_end s a
theorem L_take (s : ByteArray) (k : Nat) : L (s.extract 0 k) = (L s).take k := by
  show (s.extract 0 k).data.toList = _
  simp [L]
theorem L_app (a b : ByteArray) : L (a ++ b) = L a ++ L b := by simp [L]
theorem L_B (l : List UInt8) : L (B l) = l := rfl
theorem B_eq {a : ByteArray} {l : List UInt8} (h : L a = l) : a = B l := by rw [← h, BL]
theorem w64 {x : Int} (h0 : -9223372036854775808 ≤ x) (h1 : x ≤ 9223372036854775807) : wrap64 x = x := by unfold wrap64; omega
theorem bt_L (s : ByteArray) (pre post : List UInt8) (c : UInt8) (h : L s = pre ++ c :: post) : bt s (pre.length : Int) = (c.toNat : Int) := by
  have hs : s.size = pre.length + 1 + post.length := by rw [← L_len, h]; simp; omega
  unfold bt
  rw [dif_pos (by simp; omega)]
  have : s[(pre.length : Int).toNat]'(by simp; omega) = (L s)[pre.length]'(by rw [L_len]; omega) := rfl
  rw [this]
  simp [h]

theorem split_some {p : ByteArray} {ls : List (List UInt8)} (h : OKs ls) (hp : L p = text ls) : path_Split.f p = some (ls.map B, true) := by
  unfold path_Split.f
  rw [hp, split_text h]
theorem split_none {p : ByteArray} (h : splitL (L p) = none) : path_Split.f p = some ([], false) := by
  unfold path_Split.f
  rw [h]
theorem right_some {p : ByteArray} {ls : List (List UInt8)} (h : OKs ls) (hp : L p = text ls) : path_Right.f p = some true := by
  unfold path_Right.f
  rw [split_some h hp]; rfl
theorem right_none {p : ByteArray} (h : splitL (L p) = none) : path_Right.f p = some false := by
  unfold path_Right.f
  rw [split_none h]; rfl
theorem path_cases (p : ByteArray) : splitL (L p) = none ∨ ∃ ls, OKs ls ∧ L p = text ls := by
  cases h : splitL (L p) with
  | none => exact .inl rfl
  | some ls => exact .inr ⟨ls, (splitL_iff _ _).1 h⟩
theorem size_of {p : ByteArray} {ls : List (List UInt8)} (h : OKs ls) (hp : L p = text ls) : p.size ≤ 78 := by
  rw [← L_len, hp]; exact text_len h

/-- is that a path; does one lie in another one -/
def isP (p : ByteArray) : Bool := (splitL (L p)).isSome
theorem right_is (p : ByteArray) : path_Right.f p = some (isP p) := by
  unfold isP
  rcases path_cases p with h | ⟨ls, h, hp⟩
  · rw [right_none h, h]; rfl
  · rw [right_some h hp, hp, split_text h]; rfl
end Go.Proofs.Ytclomgbiomojjaa.PathF
namespace Go.Proofs.Ytclomgbiomojjaa.LRgt
open Go Go.RowKit Go.Maps Go.Proofs.Ytclomgbiomojjaa.Q Go.Proofs.Ytclomgbiomojjaa.LRight Go.Proofs.Ytclomgbiomojjaa.PathF Go.Proofs.YtclomgbiomojjaaW.PrintWords Go.Proofs.YtclomgbiomojjaaW.PrintLast
set_option linter.unusedVariables false
set_option linter.unusedSimpArgs false

def num (n : Int) : Bool := decide (0 ≤ n) && decide (n ≤ 281474976710656)
theorem num_is (n : Int) : locks_number.f n = some (num n) := by
  unfold locks_number.f num
  by_cases h : n ≥ 0
  · rw [if_pos h, decide_eq_true (show 0 ≤ n from h)]; rfl
  · rw [if_neg h, decide_eq_false (show ¬ 0 ≤ n from h)]; rfl
def lessB (a b : ByteArray) : Bool := Op.bytesLess a.toList b.toList
def aheadB : Option S34 → S34 → Bool
  | none, _ => true
  | some p, x => lessB p.f0 x.f0
def goB : Option S34 → Dm → List S34 → Bool
  | _, _, [] => true
  | prev, D, x :: t => isP x.f0 && (num x.f1 && (num x.f2 && ((!Maps.has D (.int .i64 x.f1) || cOf D x.f1 == x.f2) && (aheadB prev x && goB (some x) (putD D x) t))))
theorem rd_at {l : List S34} {i : Nat} {x : S34} {t : List S34} (h : l.drop i = x :: t) : rd_T34 l (i : Int) = x ∧ i < l.length ∧ l.drop (i + 1) = t ∧ l[i]? = some x := by
  have h1 : i < l.length := by
    rcases Nat.lt_or_ge i l.length with h1 | h1
    · exact h1
    · rw [List.drop_eq_nil_of_le h1] at h; cases h
  rw [List.drop_eq_getElem_cons h1] at h
  cases h
  refine ⟨?_, h1, rfl, by simp [h1]⟩
  unfold rd_T34
  simp [h1]
theorem l0_is (l : List S34) (hl : l.length ≤ 1000000) : ∀ (rest : List S34) (i : Nat) (D : Dm) (k : Nat), l.drop i = rest → rest.length < k →
    locks_Right.l0 k l D l (l.length : Int) (i : Int) = some (goB (if 0 < i then l[i - 1]? else none) D rest)
  | [], i, D, 0, _, hk => absurd hk (by simp)
  | [], i, D, k + 1, h, _ => by
    have h1 : l.length ≤ i := by
      rcases Nat.lt_or_ge i l.length with h1 | h1
      · rw [List.drop_eq_getElem_cons h1] at h; cases h
      · exact h1
    unfold locks_Right.l0
    rw [if_neg (by omega)]
    rfl
  | x :: t, i, D, 0, _, hk => absurd hk (by simp)
  | x :: t, i, D, k + 1, h, hk => by
    obtain ⟨hx, h1, h2, h3⟩ := rd_at h
    have ih := l0_is l hl t (i + 1) (putD D x) k h2 (by simp at hk; omega)
    rw [if_pos (by omega), Nat.add_sub_cancel, h3] at ih
    have hw : wrap64 ((i : Int) + 1) = ((i + 1 : Nat) : Int) := by unfold wrap64; omega
    unfold locks_Right.l0 goB
    rw [if_pos (by omega), if_pos (by omega), if_pos (by omega), hx, hw]
    unfold lookD
    rw [Option.bind_some, right_is, Option.bind_some, num_is, num_is]
    cases hp : isP x.f0 with
    | false => simp
    | true =>
      rw [if_pos rfl, Option.bind_some]
      cases hn : num x.f1 with
      | false => simp
      | true =>
        rw [if_pos rfl, Option.bind_some]
        cases hm : num x.f2 with
        | false => simp
        | true =>
          rw [if_pos rfl]
          -- the place ahead
          have hA : (if (i : Int) > 0 then (if 0 ≤ (wrap64 ((i : Int) - 1)) then (if (wrap64 ((i : Int) - 1)) < (l.length : Int) then (if ((Op.bytesLess (((rd_T34 l (wrap64 ((i : Int) - 1))).f0).toList) (x.f0.toList)) = true) then (locks_Right.l0 k l (putD D x) l (l.length : Int) ((i + 1 : Nat) : Int)) else (some false)) else (none)) else (none)) else (locks_Right.l0 k l (putD D x) l (l.length : Int) ((i + 1 : Nat) : Int)))
              = some (aheadB (if 0 < i then l[i - 1]? else none) x && goB (some x) (putD D x) t) := by
            rw [ih]
            by_cases h0 : 0 < i
            · have hw1 : wrap64 ((i : Int) - 1) = ((i - 1 : Nat) : Int) := by unfold wrap64; omega
              have hr : rd_T34 l ((i - 1 : Nat) : Int) = l[i - 1] := by unfold rd_T34; simp [show i - 1 < l.length by omega]
              rw [if_pos (by omega), hw1, if_pos (by omega), if_pos (by omega), hr, if_pos h0, List.getElem?_eq_getElem (by omega)]
              show _ = some (lessB l[i - 1].f0 x.f0 && _)
              unfold lessB
              cases Op.bytesLess (l[i - 1].f0.toList) x.f0.toList <;> simp
            · rw [if_neg (by omega), if_neg h0]
              simp [aheadB]
          cases hh : Maps.has D (.int .i64 x.f1) with
          | false =>
            simp only [hh]
            rw [if_neg (by simp), hA]
            simp
          | true =>
            simp only [hh]
            rw [if_pos trivial]
            by_cases hc : cOf D x.f1 = x.f2
            · rw [if_pos hc, hA]
              simp [hc]
            · rw [if_neg hc]
              simp [hc]
/-! ### in the document's words -/
def ageOk (seen : List S34) (x : S34) : Bool := seen.all (fun y => y.f1 != x.f1 || y.f2 == x.f2)
def okFrom : Option S34 → List S34 → List S34 → Bool
  | _, _, [] => true
  | prev, seen, x :: t => isP x.f0 && (num x.f1 && (num x.f2 && (ageOk seen x && (aheadB prev x && okFrom (some x) (x :: seen) t))))
def Rep (D : Dm) (seen : List S34) : Prop := IsMap D ∧ (∀ t, Maps.has D (.int .i64 t) = seen.any (fun y => y.f1 == t)) ∧ ∀ t y, y ∈ seen → y.f1 = t → cOf D t = y.f2
theorem key_ok (t : Int) : WideAt.IsKeyLit (.int .i64 t) := trivial
theorem rep_nil : Rep (.map []) [] := ⟨isMap_empty, fun t => rfl, fun t y h => by cases h⟩
theorem cOf_same {D : Dm} (h : IsMap D) (x : S34) : cOf (putD D x) x.f1 = x.f2 := by
  unfold cOf putD
  rw [atKey_put_same h (key_ok _)]
theorem cOf_other {D : Dm} {x : S34} {t : Int} (h : t ≠ x.f1) : cOf (putD D x) t = cOf D t := by
  unfold cOf putD
  rw [atKey_put_other (fun e => h (by cases e; rfl))]
theorem rep_put {D : Dm} {seen : List S34} {x : S34} (h : Rep D seen) (ha : ageOk seen x = true) : Rep (putD D x) (x :: seen) := by
  obtain ⟨h1, h2, h3⟩ := h
  refine ⟨h1.put _ _, fun t => ?_, fun t y hy hf => ?_⟩
  · by_cases e : t = x.f1
    · subst e
      unfold putD
      rw [has_put_same h1 (key_ok _)]
      simp
    · unfold putD
      rw [has_put_other (fun e' => e (by cases e'; rfl)), h2]
      have : (x.f1 == t) = false := beq_eq_false_iff_ne.2 (fun e' => e e'.symm)
      simp [this]
  · by_cases e : t = x.f1
    · subst e
      rw [cOf_same h1]
      rcases List.mem_cons.1 hy with rfl | hy
      · rfl
      · have := List.all_eq_true.1 ha y hy
        simp only [Bool.or_eq_true, bne_iff_ne, beq_iff_eq] at this
        rcases this with h' | h'
        · exact absurd hf h'
        · exact h'.symm
    · rw [cOf_other e]
      rcases List.mem_cons.1 hy with rfl | hy
      · exact absurd hf.symm e
      · exact h3 t y hy hf
theorem look_is {D : Dm} {seen : List S34} (h : Rep D seen) (x : S34) : (!Maps.has D (.int .i64 x.f1) || cOf D x.f1 == x.f2) = ageOk seen x := by
  obtain ⟨h1, h2, h3⟩ := h
  rw [h2]
  cases e : seen.any (fun y => y.f1 == x.f1) with
  | false =>
    have : ageOk seen x = true := List.all_eq_true.2 fun y hy => by
      have := List.any_eq_false.1 e y hy
      simp only [Bool.or_eq_true, bne_iff_ne]
      exact Or.inl (by simpa using this)
    rw [this]; rfl
  | true =>
    obtain ⟨z, hz, hzf⟩ := List.any_eq_true.1 e
    have hzf : z.f1 = x.f1 := by simpa using hzf
    rw [Bool.eq_iff_iff]
    constructor
    · intro h
      have hc : cOf D x.f1 = x.f2 := by simpa using h
      refine List.all_eq_true.2 fun y hy => ?_
      simp only [Bool.or_eq_true, bne_iff_ne, beq_iff_eq]
      by_cases hy1 : y.f1 = x.f1
      · right; rw [← h3 _ y hy hy1, hc]
      · left; exact hy1
    · intro h
      have := List.all_eq_true.1 h z hz
      simp only [Bool.or_eq_true, bne_iff_ne, beq_iff_eq] at this
      rcases this with h' | h'
      · exact absurd hzf h'
      · simp [h3 _ z hz hzf, h']
theorem go_is : ∀ (rest : List S34) (prev : Option S34) (D : Dm) (seen : List S34), Rep D seen → goB prev D rest = okFrom prev seen rest
  | [], _, _, _, _ => rfl
  | x :: t, prev, D, seen, h => by
    unfold goB okFrom
    rw [look_is h x]
    cases ha : ageOk seen x with
    | false => simp
    | true => rw [go_is t (some x) _ _ (rep_put h ha)]
/-- may these be held? -/
def rightB (l : List S34) : Bool := okFrom none [] l
def locks_Right.f (l0 : List (S34)) : Option Bool := if l0.length ≤ 1000000 ∧ l0.all wfB = true then some (rightB l0) else none
theorem locks_Right.calls (A0 : Option Addr) (c0 : Nat) (l0 : List (S34)) (r : Bool) (w : World) (hr0 : Kd.C k34 w A0 l0.length l0) (hc0 : l0.length ≤ c0) (h : locks_Right.f l0 = some r) :
    Calls Try.prog 16 #[.slice A0 l0.length c0] w fun e w' => e = .returned (.bool r) ∧ Below w.heap.size w w' := by
  unfold locks_Right.f at h
  split at h
  · next hl =>
    cases h
    refine LRight.locks_Right.calls (l0.length + 1) A0 c0 l0 _ w hr0 hc0 hl.1 hl.2 ?_
    have := l0_is l0 hl.1 l0 0 (.map []) (l0.length + 1) rfl (by omega)
    rw [if_neg (by omega)] at this
    rw [show ((0 : Nat) : Int) = 0 from rfl] at this
    rw [this, go_is l0 none _ _ rep_nil]
    rfl
  · cases h
end Go.Proofs.Ytclomgbiomojjaa.LRgt
-- GIVEN 16 LRgt locks_Right ps=sl34:st:34 rs=bool rounds=0 making=1
