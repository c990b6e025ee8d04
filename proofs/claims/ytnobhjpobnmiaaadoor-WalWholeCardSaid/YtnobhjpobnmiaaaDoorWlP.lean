/- A log, without memory: what Open, Append, Start do; what bytes bear which records. -/
import Derived.Test.YtnobhjpobnmiaaaDoorWl9
namespace Go.Proofs.YtnobhjpobnmiaaaDoor.Wl
open Go Go.RowKit Go.Proofs.YtnobhjpobnmiaaaDoor.Sk
set_option linter.unusedVariables false
set_option linter.unusedSimpArgs false

instance (b : By) : Decidable (nz b) := by unfold nz; infer_instance
structure LS where
  area : Nat
  l : List By
  t : Nat
def base (n a : Nat) : Nat := (1 + a * half n) * 16
/-- the bytes of an area -/
def ar (b : By) (a : Nat) : By := (b.drop (base b.length a)).take (half b.length * 16)
def zer (n : Nat) : By := List.replicate n 0
def signOf (b : By) : Option Nat := if b.take 16 = sign 1 then some 1 else if b.take 16 ≠ sign 0 ∧ nz (b.take 16) then none else some 0
def cleanD (s : D) (o n : Nat) : D × Int := thn (wst s (o : Int) (zer n)) fun s => thn s.sync fin
def openD (s : D) : Option LS × Int × D :=
  if s.down then (none, 31, s)
  else if s.b.length < 48 then (none, 1, s)
  else match signOf s.b with
    | none => (none, 3, s)
    | some a =>
      let r := scan 5000 [] 0 (ar s.b a)
      if nz ((ar s.b a).drop (r.2 * 16)) then
        let y := cleanD s (base s.b.length a + r.2 * 16) ((ar s.b a).length - r.2 * 16)
        if y.2 = 0 then (some ⟨a, r.1, r.2⟩, 0, y.1) else (none, y.2, y.1)
      else (some ⟨a, r.1, r.2⟩, 0, s)
def appendD (s : D) (g : LS) (b : By) : D × Int × LS :=
  if b.length > 16384 then (s, 1, g)
  else if need b.length + g.t > half s.b.length then (s, 51, g)
  else
    let r := putD s ((1 + g.area * half s.b.length + g.t) * 16) g.l.length b
    (r.1, r.2, if r.2 = 0 then ⟨g.area, g.l ++ [b], g.t + need b.length⟩ else g)
def startP (s : D) (o : Nat) (b : By) : D × Int :=
  thn (wst s ((1 + o * half s.b.length + 0) * 16 : Nat) (zer (half s.b.length * 16))) fun s1 => thn (putD s1 ((1 + o * half s.b.length + 0) * 16) 0 b) fun s2 => thn (wst s2 (0 : Nat) (sign o)) fun s3 => thn s3.sync fin
def startD (s : D) (g : LS) (b : By) : D × Int × LS :=
  if b.length > 16384 then (s, 1, g)
  else if need b.length > half s.b.length then (s, 51, g)
  else
    let r := startP s (1 - g.area) b
    (r.1, r.2, if r.2 = 0 then ⟨1 - g.area, [b], need b.length⟩ else g)

/-! what bytes bear -/
/-- records, one behind the other; what lies between a record's bytes and the next head is not looked at -/
inductive Enc : Nat → List By → By → Prop where
  | nil (k : Nat) : Enc k [] []
  | cons (k : Nat) (x p : By) (l : List By) (e : By) : x.length ≤ 16384 → x.length + p.length = (need x.length - 1) * 16 → Enc (k + 1) l e → Enc k (x :: l) (hd k x ++ (x ++ (p ++ e)))
theorem enc_snoc {k : Nat} {l : List By} {e : By} (h : Enc k l e) (x p : By) (hx : x.length ≤ 16384) (hp : x.length + p.length = (need x.length - 1) * 16) : Enc k (l ++ [x]) (e ++ (hd (k + l.length) x ++ (x ++ p))) := by
  induction h with
  | nil k =>
    have := Enc.cons k x p [] [] hx hp (Enc.nil _)
    rw [List.append_nil] at this
    exact this
  | cons k y q l e hy hq he ih =>
    have := Enc.cons k y q (l ++ [x]) _ hy hq ih
    rw [List.cons_append, List.append_assoc, List.append_assoc, List.append_assoc, List.length_cons, show k + (l.length + 1) = k + 1 + l.length by omega]
    exact this
/-- how many sectors -/
def needs : List By → Nat
  | [] => 0
  | x :: l => need x.length + needs l
theorem needs_snoc (l : List By) (x : By) : needs (l ++ [x]) = needs l + need x.length := by
  induction l with
  | nil => show need x.length + 0 = 0 + need x.length; omega
  | cons y l ih => show need y.length + needs (l ++ [x]) = need y.length + needs l + need x.length; rw [ih]; omega
theorem need_pos (n : Nat) : 1 ≤ need n := by unfold need; omega
theorem enc_len {k : Nat} {l : List By} {e : By} (h : Enc k l e) : e.length = needs l * 16 := by
  induction h with
  | nil => rfl
  | cons k x p l e hx hp he ih =>
    simp only [List.length_append, hd_len, ih, needs]
    have := need_pos x.length
    omega
theorem needs_ge (l : List By) : l.length ≤ needs l := by
  induction l with
  | nil => exact Nat.le_refl _
  | cons x l ih => have := need_pos x.length; simp only [List.length_cons, needs]; omega
theorem lenOf_hd {k : Nat} {x r : By} (hx : x.length ≤ 16384) : lenOf (hd k x ++ r) = x.length := by
  have e : ((hd k x ++ r).drop 5).take 4 = four x.length := by unfold hd four; rfl
  unfold lenOf
  rw [e, num_four (by omega) (by omega)]
  rfl
theorem drop_hd (k : Nat) (x r : By) : (hd k x ++ r).drop 16 = r := by
  rw [List.drop_append, List.drop_of_length_le (by rw [hd_len]; omega), hd_len, Nat.sub_self, List.drop_zero]
  rfl
theorem recOf_hd {k : Nat} {x r : By} (hx : x.length ≤ 16384) : recOf (hd k x ++ (x ++ r)) = x := by
  unfold recOf
  rw [lenOf_hd hx, drop_hd, List.take_append, Nat.sub_self, List.take_zero, List.append_nil, List.take_of_length_le (Nat.le_refl _)]
theorem isRec_hd {k : Nat} {x p r : By} (hx : x.length ≤ 16384) (hp : x.length + p.length = (need x.length - 1) * 16) : isRec k (hd k x ++ (x ++ (p ++ r))) := by
  have hn := need_pos x.length
  refine ⟨by simp [hd_len], by rw [lenOf_hd hx]; exact hx, ?_, ?_⟩
  · rw [lenOf_hd hx]
    simp only [List.length_append, hd_len]
    omega
  · rw [recOf_hd hx, List.take_append, List.take_of_length_le (by rw [hd_len]; omega), hd_len, Nat.sub_self, List.take_zero, List.append_nil]
theorem scan_enc {k : Nat} {l : List By} {e : By} (h : Enc k l e) : ∀ (f : Nat) (l0 : List By) (t : Nat) (r : By), l0.length = k → l.length < f → ¬ isRec (k + l.length) r → scan f l0 t (e ++ r) = (l0 ++ l, t + needs l) := by
  induction h with
  | nil k =>
    intro f l0 t r hk hf hr
    obtain ⟨f, rfl⟩ : ∃ g, f = g + 1 := ⟨f - 1, by have : 0 < f := hf; omega⟩
    rw [List.nil_append, scan, if_neg (by rw [hk]; exact hr), List.append_nil]
    rfl
  | cons k x p l e hx hp he ih =>
    intro f l0 t r hk hf hr
    obtain ⟨f, rfl⟩ : ∃ g, f = g + 1 := ⟨f - 1, by have : 0 < f := Nat.lt_of_le_of_lt (Nat.zero_le _) hf; omega⟩
    have hn := need_pos x.length
    have e1 : hd k x ++ (x ++ (p ++ e)) ++ r = hd k x ++ (x ++ (p ++ (e ++ r))) := by simp only [List.append_assoc]
    have e2 : (hd k x ++ (x ++ (p ++ (e ++ r)))).drop (need x.length * 16) = e ++ r := by
      have : hd k x ++ (x ++ (p ++ (e ++ r))) = (hd k x ++ (x ++ p)) ++ (e ++ r) := by simp only [List.append_assoc]
      rw [this, List.drop_append, List.drop_of_length_le (by simp only [List.length_append, hd_len]; omega)]
      have : need x.length * 16 - (hd k x ++ (x ++ p)).length = 0 := by simp only [List.length_append, hd_len]; omega
      rw [this]
      rfl
    rw [e1, scan, if_pos (by rw [hk]; exact isRec_hd hx hp), recOf_hd hx, lenOf_hd hx, e2]
    rw [ih f (l0 ++ [x]) (t + need x.length) r (by rw [List.length_append, hk]; rfl) (by simp only [List.length_cons] at hf; omega) (by rw [List.length_cons] at hr; rw [show k + 1 + l.length = k + (l.length + 1) by omega]; exact hr)]
    rw [List.append_assoc]
    simp only [List.cons_append, List.nil_append, needs, Nat.add_assoc]
/-- what scan finds is there -/
theorem scan_finds : ∀ (f : Nat) (l0 : List By) (t : Nat) (b : By), b.length < 16 * f → ∃ l e r, b = e ++ r ∧ Enc l0.length l e ∧ ¬ isRec (l0.length + l.length) r ∧ scan f l0 t b = (l0 ++ l, t + needs l)
  | 0, _, _, _, h => absurd h (by omega)
  | f + 1, l0, t, b, h => by
    by_cases c : isRec l0.length b
    · obtain ⟨c1, c2, c3, c4⟩ := id c
      have hn := need_pos (lenOf b)
      have hl : (recOf b).length = lenOf b := by
        unfold recOf
        rw [List.length_take, List.length_drop]
        unfold need at c3
        omega
      obtain ⟨l, e, r, h1, h2, h3, h4⟩ := scan_finds f (l0 ++ [recOf b]) (t + need (lenOf b)) (b.drop (need (lenOf b) * 16)) (by rw [List.length_drop]; omega)
      rw [List.length_append] at h2 h3
      have hsplit : b = hd l0.length (recOf b) ++ (recOf b ++ (((b.drop 16).take ((need (lenOf b) - 1) * 16)).drop (lenOf b) ++ b.drop (need (lenOf b) * 16))) := by
        have e1 : recOf b ++ ((b.drop 16).take ((need (lenOf b) - 1) * 16)).drop (lenOf b) = (b.drop 16).take ((need (lenOf b) - 1) * 16) := by
          have : recOf b = ((b.drop 16).take ((need (lenOf b) - 1) * 16)).take (lenOf b) := by
            unfold recOf
            rw [List.take_take, Nat.min_eq_left (by unfold need; omega)]
          rw [this, List.take_append_drop]
        rw [← c4, ← List.append_assoc (recOf b), e1, show need (lenOf b) * 16 = 16 + (need (lenOf b) - 1) * 16 by omega, ← List.drop_drop, List.take_append_drop, List.take_append_drop]
      refine ⟨recOf b :: l, hd l0.length (recOf b) ++ (recOf b ++ (((b.drop 16).take ((need (lenOf b) - 1) * 16)).drop (lenOf b) ++ e)), r, ?_, ?_, ?_, ?_⟩
      · have := hsplit
        rw [h1] at this
        simp only [List.append_assoc] at this ⊢
        exact this
      · refine Enc.cons _ _ _ _ _ (by rw [hl]; exact c2) ?_ h2
        rw [hl, List.length_drop, List.length_take, List.length_drop]
        unfold need at c3 ⊢
        omega
      · rw [List.length_cons]
        rw [show l0.length + (l.length + 1) = l0.length + [recOf b].length + l.length by simp; omega]
        exact h3
      · rw [scan, if_pos c, h4]
        simp only [List.append_assoc, List.cons_append, List.nil_append, needs, hl, Nat.add_assoc]
    · exact ⟨[], [], b, rfl, Enc.nil _, c, by rw [scan, if_neg c, List.append_nil]; rfl⟩
end Go.Proofs.YtnobhjpobnmiaaaDoor.Wl
