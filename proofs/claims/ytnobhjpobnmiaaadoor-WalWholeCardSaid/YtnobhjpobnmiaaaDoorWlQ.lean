/- A log, without memory: bytes that bear records; Open of them. -/
import Derived.Test.YtnobhjpobnmiaaaDoorWlP
namespace Go.Proofs.YtnobhjpobnmiaaaDoor.Wl
open Go Go.RowKit Go.Proofs.YtnobhjpobnmiaaaDoor.Sk
set_option linter.unusedVariables false
set_option linter.unusedSimpArgs false

def sub (b : By) (o n : Nat) : By := (b.drop o).take n
theorem sub_len {b : By} {o n : Nat} (h : o + n ≤ b.length) : (sub b o n).length = n := by unfold sub; rw [List.length_take, List.length_drop]; omega
theorem sub_get (b : By) (o n i : Nat) : (sub b o n)[i]? = if i < n then b[o + i]? else none := by
  unfold sub
  rw [List.getElem?_take, List.getElem?_drop]
theorem sub_ext {b c : By} {o n : Nat} (h : ∀ i, o ≤ i → i < o + n → c[i]? = b[i]?) : sub c o n = sub b o n := by
  apply List.ext_getElem?
  intro i
  rw [sub_get, sub_get]
  split
  · exact h _ (by omega) (by omega)
  · rfl
theorem sub_split (b : By) (o n m : Nat) : sub b o (n + m) = sub b o n ++ sub b (o + n) m := by
  unfold sub
  rw [List.take_add, List.drop_drop]
theorem sub_eq {b x : By} {o : Nat} (h : ∀ i, i < x.length → b[o + i]? = x[i]?) : sub b o x.length = x := by
  apply List.ext_getElem?
  intro i
  rw [sub_get]
  split
  · next hi => exact h i hi
  · next hi => rw [List.getElem?_eq_none (by omega)]
theorem zer_get (n i : Nat) : (zer n)[i]? = if i < n then some 0 else none := by unfold zer; rw [List.getElem?_replicate]
/-- the sign says area a -/
def Signs (b : By) (a : Nat) : Prop := sub b 0 16 = sign a ∨ (a = 0 ∧ sub b 0 16 = zer 16)
/-- bytes that bear l in area a, and no head behind -/
structure Good (b : By) (a : Nat) (l : List By) (t : Nat) : Prop where
  len : 48 ≤ b.length
  a1 : a ≤ 1
  sg : Signs b a
  th : t ≤ half b.length
  enc : Enc 0 l (sub b (base b.length a) (t * 16))
  nxt : t < half b.length → sub b (base b.length a + t * 16) 16 = zer 16
/-- zeros behind -/
def Clean (b : By) (a t : Nat) : Prop := ∀ i, base b.length a + t * 16 ≤ i → i < base b.length a + half b.length * 16 → b[i]? = some 0
theorem sign_ne : sign 1 ≠ sign 0 := by decide
theorem signs_of {b : By} {a : Nat} (h : Signs b a) (ha : a ≤ 1) : signOf b = some a := by
  have e : b.take 16 = sub b 0 16 := by unfold sub; rw [List.drop_zero]
  unfold signOf
  rw [e]
  rcases h with h | ⟨rfl, h⟩
  · rcases (show a = 0 ∨ a = 1 by omega) with rfl | rfl
    · rw [h, if_neg (by decide), if_neg (fun c => c.1 rfl)]
    · rw [h]; exact if_pos rfl
  · rw [h, if_neg (by decide), if_neg (fun c => absurd c.2 (by decide))]
theorem not_nz {x : By} (h : ¬ nz x) : x = zer x.length := by
  apply List.ext_getElem?
  intro i
  rw [zer_get]
  split
  · next hi =>
    rw [List.getElem?_eq_getElem hi]
    by_cases c : x[i] = 0
    · rw [c]
    · exact absurd ⟨_, List.getElem_mem hi, c⟩ h
  · next hi => exact List.getElem?_eq_none (by omega)
theorem signs_to {b : By} {a : Nat} (hl : 16 ≤ b.length) (h : signOf b = some a) : a ≤ 1 ∧ Signs b a := by
  have e : b.take 16 = sub b 0 16 := by unfold sub; rw [List.drop_zero]
  unfold signOf at h
  rw [e] at h
  split at h
  · next c => cases h; exact ⟨Nat.le_refl _, .inl c⟩
  · split at h
    · cases h
    · next c1 c2 =>
      cases h
      refine ⟨Nat.zero_le _, ?_⟩
      by_cases c : sub b 0 16 = sign 0
      · exact .inl c
      · have c3 : ¬ nz (sub b 0 16) := fun c3 => c2 ⟨c, c3⟩
        have := not_nz c3
        rw [sub_len (by omega)] at this
        exact .inr ⟨rfl, this⟩
theorem enc_needs {k : Nat} {l : List By} {e : By} (h : Enc k l e) {t : Nat} (ht : e.length = t * 16) : needs l = t := by
  have := enc_len h
  omega
theorem base_le {n a : Nat} (ha : a ≤ 1) (hn : 48 ≤ n) : base n a + half n * 16 ≤ n := by
  unfold base
  rcases (show a = 0 ∨ a = 1 by omega) with rfl | rfl
  · unfold half; omega
  · unfold half; omega
theorem base_ge (n a : Nat) : 16 ≤ base n a := by unfold base; omega
section
variable {b c : By} {a t : Nat} {l : List By}
theorem Good.sublen (h : Good b a l t) : (sub b (base b.length a) (t * 16)).length = t * 16 := sub_len (by have := base_le h.a1 h.len; have := h.th; omega)
theorem Good.needs (h : Good b a l t) : needs l = t := enc_needs h.enc h.sublen
theorem Good.many (h : Good b a l t) : l.length ≤ t := by have := needs_ge l; have := h.needs; omega
theorem zer_notRec {k : Nat} {r : By} (h : r.take 16 = zer 16) : ¬ isRec k r := by
  intro c
  have := c.2.2.2
  rw [h] at this
  unfold hd at this
  cases this
theorem Good.scan (h : Good b a l t) (hb : b.length ≤ 65536) : scan 5000 [] 0 (ar b a) = (l, t) := by
  have hbl := base_le h.a1 h.len
  have e : ar b a = sub b (base b.length a) (t * 16) ++ sub b (base b.length a + t * 16) ((half b.length - t) * 16) := by
    rw [← sub_split]
    have := h.th
    unfold ar sub
    congr 1
    omega
  have hm := h.many
  have hth := h.th
  have hh := half_le hb
  rw [e, scan_enc h.enc 5000 [] 0 _ rfl (by omega) ?_, List.nil_append, Nat.zero_add, h.needs]
  rcases Nat.lt_or_ge t (half b.length) with c | c
  · refine zer_notRec ?_
    have := h.nxt c
    rw [← this]
    unfold sub
    rw [List.take_take, Nat.min_eq_left (by omega)]
  · intro c2
    have := c2.1
    rw [show half b.length - t = 0 by omega] at this
    unfold sub at this
    simp at this
theorem ar_len (ha : a ≤ 1) (hl : 48 ≤ b.length) : (ar b a).length = half b.length * 16 := by
  have := base_le ha hl
  unfold ar
  rw [List.length_take, List.length_drop]
  omega
theorem clean_nz (h : Clean b a t) (ht : t ≤ half b.length) (ha : a ≤ 1) (hl : 48 ≤ b.length) : ¬ nz ((ar b a).drop (t * 16)) := by
  rintro ⟨y, hy, hy0⟩
  obtain ⟨i, hi⟩ := List.mem_iff_getElem?.1 hy
  have hlt := (List.getElem?_eq_some_iff.1 hi).1
  rw [List.length_drop, ar_len ha hl] at hlt
  unfold ar at hi
  rw [List.getElem?_drop, List.getElem?_take, if_pos (by omega), List.getElem?_drop, h _ (by omega) (by omega)] at hi
  cases hi
  exact hy0 rfl
/-- what agrees where it is looked at -/
theorem Good.agree (h : Good b a l t) (hl : c.length = b.length) (h0 : ∀ i, i < 16 → c[i]? = b[i]?) (h1 : ∀ i, base b.length a ≤ i → i < base b.length a + t * 16 → c[i]? = b[i]?)
    (h2 : t < half b.length → ∀ i, base b.length a + t * 16 ≤ i → i < base b.length a + t * 16 + 16 → c[i]? = b[i]?) : Good c a l t := by
  refine ⟨by rw [hl]; exact h.len, h.a1, ?_, by rw [hl]; exact h.th, ?_, ?_⟩
  · have : sub c 0 16 = sub b 0 16 := sub_ext fun i _ hi => h0 i (by omega)
    unfold Signs
    rw [this]
    exact h.sg
  · rw [hl, sub_ext h1]
    exact h.enc
  · intro ht
    rw [hl] at ht ⊢
    rw [sub_ext (h2 ht)]
    exact h.nxt ht
/-- a record more -/
theorem Good.snoc (h : Good b a l t) (hc : Clean b a t) (hl : c.length = b.length) {x : By} (hx : x.length ≤ 16384) (hf : t + need x.length ≤ half b.length) (h0 : ∀ i, ¬ (base b.length a + t * 16 ≤ i ∧ i < base b.length a + (t + need x.length) * 16) → c[i]? = b[i]?)
    (h1 : sub c (base b.length a + t * 16) (need x.length * 16) = hd l.length x ++ pad x) : Good c a (l ++ [x]) (t + need x.length) ∧ Clean c a (t + need x.length) := by
  have hbl := base_le h.a1 h.len
  have hbg := base_ge b.length a
  have hnp := need_pos x.length
  have hcl : Clean c a (t + need x.length) := by
    intro i hi1 hi2
    rw [hl] at hi1 hi2
    rw [h0 i (by omega)]
    exact hc i (by omega) hi2
  refine ⟨⟨by rw [hl]; exact h.len, h.a1, ?_, by rw [hl]; exact hf, ?_, ?_⟩, hcl⟩
  · have : sub c 0 16 = sub b 0 16 := sub_ext fun i _ hi => h0 i (by omega)
    unfold Signs
    rw [this]
    exact h.sg
  · rw [hl, Nat.add_mul, sub_split, h1, sub_ext (fun i hi1 hi2 => h0 i (by omega))]
    have e : pad x = x ++ List.replicate ((need x.length - 1) * 16 - x.length) 0 := rfl
    have := enc_snoc h.enc x (List.replicate ((need x.length - 1) * 16 - x.length) 0) hx (by rw [List.length_replicate]; unfold need; omega)
    rw [Nat.zero_add] at this
    rw [e]
    exact this
  · intro ht
    rw [hl] at ht ⊢
    refine sub_eq (x := zer 16) fun i hi => ?_
    have hi : i < 16 := hi
    rw [zer_get, if_pos hi, hcl _ (by rw [hl]; omega) (by rw [hl]; omega)]
end
end Go.Proofs.YtnobhjpobnmiaaaDoor.Wl
