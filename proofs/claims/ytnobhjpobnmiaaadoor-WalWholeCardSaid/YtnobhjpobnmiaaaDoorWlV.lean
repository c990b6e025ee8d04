/- A log, without memory: what bytes bear behind an Append, cut or not, and behind Open. -/
import Derived.Test.YtnobhjpobnmiaaaDoorWlU
namespace Go.Proofs.YtnobhjpobnmiaaaDoor.Wl
open Go Go.RowKit Go.Proofs.YtnobhjpobnmiaaaDoor.Sk
set_option linter.unusedVariables false
set_option linter.unusedSimpArgs false

def full (b : By) (at_ k : Nat) (x : By) : By := splice (splice b (at_ + 16) (pad x)) at_ (hd k x)
section
variable {b x : By} {a t k at_ : Nat} {l : List By}
theorem part_len (hf : at_ + need x.length * 16 ≤ b.length) : (splice b (at_ + 16) (pad x)).length = b.length := splice_len _ _ _ (by have := need_pos x.length; rw [pad_len]; omega)
theorem full_len (hf : at_ + need x.length * 16 ≤ b.length) : (full b at_ k x).length = b.length := by
  have := need_pos x.length
  unfold full
  rw [splice_len _ _ _ (by rw [part_len hf, hd_len]; omega), part_len hf]
theorem part_get (hf : at_ + need x.length * 16 ≤ b.length) (i : Nat) (hi : ¬ (at_ + 16 ≤ i ∧ i < at_ + need x.length * 16)) : (splice b (at_ + 16) (pad x))[i]? = b[i]? := by
  have := need_pos x.length
  rw [getElem?_splice _ _ _ (by rw [pad_len]; omega), if_neg (by rw [pad_len]; omega)]
theorem full_far (hf : at_ + need x.length * 16 ≤ b.length) (i : Nat) (hi : ¬ (at_ ≤ i ∧ i < at_ + need x.length * 16)) : (full b at_ k x)[i]? = b[i]? := by
  have := need_pos x.length
  unfold full
  rw [getElem?_splice _ _ _ (by rw [part_len hf, hd_len]; omega), if_neg (by rw [hd_len]; omega)]
  exact part_get hf i (by omega)
theorem full_sub (hf : at_ + need x.length * 16 ≤ b.length) : sub (full b at_ k x) at_ (need x.length * 16) = hd k x ++ pad x := by
  have hn := need_pos x.length
  have hl : (hd k x ++ pad x).length = need x.length * 16 := by rw [List.length_append, hd_len, pad_len]; omega
  rw [← hl]
  refine sub_eq fun i hi => ?_
  rw [hl] at hi
  unfold full
  rw [getElem?_splice _ _ _ (by rw [part_len hf, hd_len]; omega)]
  by_cases c : i < 16
  · rw [if_pos (by rw [hd_len]; omega), List.getElem?_append_left (by rw [hd_len]; omega), show at_ + i - at_ = i by omega]
  · rw [if_neg (by rw [hd_len]; omega), List.getElem?_append_right (by rw [hd_len]; omega), hd_len, getElem?_splice _ _ _ (by rw [pad_len]; omega), if_pos (by rw [pad_len]; omega), show at_ + i - (at_ + 16) = i - 16 by omega]
theorem full_good (h : Good b a l t) (hc : Clean b a t) (hx : x.length ≤ 16384) (hf : t + need x.length ≤ half b.length) : Good (full b (base b.length a + t * 16) l.length x) a (l ++ [x]) (t + need x.length) ∧ Clean (full b (base b.length a + t * 16) l.length x) a (t + need x.length) := by
  have hbl := base_le h.a1 h.len
  have hfit : base b.length a + t * 16 + need x.length * 16 ≤ b.length := by omega
  exact h.snoc hc (full_len hfit) hx hf (fun i hi => full_far hfit i (by omega)) (full_sub hfit)
/-- while just what lies behind the next head is written -/
theorem part_good (h : Good b a l t) (hf : t + need x.length ≤ half b.length) {c : By} (hcl : c.length = b.length) (hc : ∀ i, ¬ (base b.length a + t * 16 + 16 ≤ i ∧ i < base b.length a + t * 16 + need x.length * 16) → c[i]? = b[i]?) : Good c a l t := by
  have hbg := base_ge b.length a
  exact h.agree hcl (fun i hi => hc i (by omega)) (fun i h1 h2 => hc i (by omega)) (fun _ i h1 h2 => hc i (by omega))
end
/-- a disk that is well -/
structure Calm (s : D) : Prop where
  up : Up s
  old : s.old = s.b
theorem calm_crash (s : D) (keep : List Bool) : Calm (s.crash keep) := ⟨⟨rfl, rfl⟩, rfl⟩
theorem crash_same {s : D} (o : Ok s) (h : s.old = s.b) (keep : List Bool) : (s.crash keep).b = s.b := by
  rcases crash_one o keep 0 (fun j _ => by rw [h]) with c | c
  · exact c
  · rw [c, h]
/-- Open, behind whatever was -/
theorem open_any {s : D} (o : Ok s) (hcm : Calm s) {a t : Nat} {l : List By} (h : Good s.b a l t) : ∃ s', openD s = (some ⟨a, l, t⟩, 0, s') ∧ Calm s' ∧ Ok s' ∧ Good s'.b a l t ∧ Clean s'.b a t ∧ s'.b.length = s.b.length ∧ s'.acts ≤ s.acts + 2 := by
  have hb : s.b.length ≤ 65536 := by have := o.bl; have := o.n2; omega
  have hs := h.scan hb
  have h48 : ¬ s.b.length < 48 := by have := h.len; omega
  have hsg := signs_of h.sg h.a1
  have hbl := base_le h.a1 h.len
  have hal := ar_len h.a1 h.len
  have hth := h.th
  by_cases hz : nz ((ar s.b a).drop (t * 16))
  · have he := openD_clean hcm.up.down h48 hsg hs hz
    obtain ⟨A, hA⟩ : ∃ A, base s.b.length a + t * 16 = A := ⟨_, rfl⟩
    obtain ⟨N, hN⟩ : ∃ N, (ar s.b a).length - t * 16 = N := ⟨_, rfl⟩
    rw [hA, hN] at he
    have hAN : A + N = base s.b.length a + half s.b.length * 16 := by omega
    have hcl : (cleanD s A N).2 = 0 ∧ Calm (cleanD s A N).1 ∧ Ok (cleanD s A N).1 ∧ (cleanD s A N).1.b = splice s.b A (zer N) ∧ (cleanD s A N).1.acts ≤ s.acts + 2 := by
      unfold cleanD
      have hfit : A + (zer N).length ≤ s.b.length := by rw [zer_len]; omega
      have ow := wst_ok o (A : Int) (zer N) (zer_range N)
      have aw := acts_wst (s := s) (A : Int) (zer N)
      have key : ∀ r : D × Int, r.2 = 0 → Up r.1 → Ok r.1 → r.1.b = splice s.b A (zer N) → r.1.acts ≤ s.acts + 1 → (thn r fun s => thn s.sync fin).2 = 0 ∧ Calm (thn r fun s => thn s.sync fin).1 ∧ Ok (thn r fun s => thn s.sync fin).1 ∧ (thn r fun s => thn s.sync fin).1.b = splice s.b A (zer N) ∧ (thn r fun s => thn s.sync fin).1.acts ≤ s.acts + 2 := by
        intro r h0 hu ho hbb haa
        rw [thn_go h0]
        have asy := acts_sync r.1
        rcases sync_b hu.down with ⟨c, _⟩ | ⟨_, c2, c3, c4, c5, c6⟩
        · have := hu.fuse; omega
        · rw [thn_go c2]
          exact ⟨rfl, ⟨⟨c5, c6 hu.fuse⟩, c4.trans c3.symm⟩, ok_sync ho, c3.trans hbb, by show r.1.sync.1.acts ≤ _; omega⟩
      rcases wst_b o (a := A) (x := zer N) hcm.up.down hfit with ⟨h1, h2⟩ | ⟨h1, _, _⟩ | ⟨_, _, h2, h3, h4, h5, h6⟩
      · exact key _ (by rw [h1]) (by rw [h1]; exact hcm.up) ow (by rw [h1, h2, splice_nil]) aw
      · have := hcm.up.fuse; omega
      · exact key _ h2 ⟨h5, h6 hcm.up.fuse⟩ ow h3 aw
    obtain ⟨k1, k2, k3, k4, k5⟩ := hcl
    rw [if_pos k1] at he
    have hfit : A + (zer N).length ≤ s.b.length := by rw [zer_len]; omega
    have hlen : (cleanD s A N).1.b.length = s.b.length := by rw [k4]; exact splice_len _ _ _ hfit
    have hget : ∀ i, (cleanD s A N).1.b[i]? = if A ≤ i ∧ i < A + N then some 0 else s.b[i]? := fun i => by
      rw [k4, getElem?_splice _ _ _ hfit, zer_len]
      split
      · rw [zer_get, if_pos (by omega)]
      · rfl
    have hbg := base_ge s.b.length a
    have hclean : Clean (cleanD s A N).1.b a t := by
      intro i h1 h2
      rw [hlen] at h1 h2
      rw [hget, if_pos (by omega)]
    refine ⟨_, he, k2, k3, ⟨by rw [hlen]; exact h.len, h.a1, ?_, by rw [hlen]; exact h.th, ?_, ?_⟩, hclean, hlen, k5⟩
    · have : sub (cleanD s A N).1.b 0 16 = sub s.b 0 16 := sub_ext fun i _ hi => by rw [hget, if_neg (by omega)]
      unfold Signs
      rw [this]
      exact h.sg
    · have e : sub (cleanD s A N).1.b (base s.b.length a) (t * 16) = sub s.b (base s.b.length a) (t * 16) := sub_ext fun i h1 h2 => by rw [hget, if_neg (by omega)]
      rw [hlen, e]
      exact h.enc
    · intro ht
      rw [hlen] at ht ⊢
      refine sub_eq (x := zer 16) fun i hi => ?_
      have hi : i < 16 := hi
      rw [zer_get, if_pos hi, hclean _ (by rw [hlen]; omega) (by rw [hlen]; omega)]
  · refine ⟨s, openD_still hcm.up.down h48 hsg hs hz, hcm, o, h, ?_, rfl, by omega⟩
    intro i h1 h2
    have hz' := not_nz hz
    have hl2 : ((ar s.b a).drop (t * 16)).length = (half s.b.length - t) * 16 := by rw [List.length_drop, hal]; omega
    have := congrArg (fun z : By => z[i - (base s.b.length a + t * 16)]?) hz'
    simp only [zer_get] at this
    rw [hl2, if_pos (by omega), List.getElem?_drop] at this
    unfold ar at this
    rw [List.getElem?_take, if_pos (by omega), List.getElem?_drop] at this
    rw [← this]
    congr 1
    omega
/-- a record that has room, on a disk that is well -/
theorem calm_append {s : D} (o : Ok s) (hcm : Calm s) {a t : Nat} {l : List By} (h : Good s.b a l t) (hc : Clean s.b a t) {x : By} (hr : ∀ y ∈ x, 0 ≤ y ∧ y ≤ 255) (hx : x.length ≤ 16384) (hf : t + need x.length ≤ half s.b.length) :
    ∃ s', appendD s ⟨a, l, t⟩ x = (s', 0, ⟨a, l ++ [x], t + need x.length⟩) ∧ Calm s' ∧ Ok s' ∧ Good s'.b a (l ++ [x]) (t + need x.length) ∧ Clean s'.b a (t + need x.length) ∧ s'.b.length = s.b.length ∧ s'.acts ≤ s.acts + 4 := by
  have hbl := base_le h.a1 h.len
  have hat : (1 + a * half s.b.length + t) * 16 = base s.b.length a + t * 16 := by unfold base; rw [Nat.add_mul (1 + a * half s.b.length) t 16]
  have hfit : base s.b.length a + t * 16 + need x.length * 16 ≤ s.b.length := by omega
  obtain ⟨g1, g2⟩ := full_good h hc hx hf
  rcases put_cases o hcm.up.down hcm.old (base s.b.length a + t * 16) l.length hr hfit with ⟨p1, p2, p3, p4, p5⟩ | ⟨_, p2, _⟩ | ⟨_, p2, _⟩
  · refine ⟨(putD s (base s.b.length a + t * 16) l.length x).1, ?_, ⟨⟨p4, p5 hcm.up.fuse⟩, p3.trans p2.symm⟩, putD_ok o _ _ hr, ?_, ?_, putD_len o _ _ hr, putD_acts _ _ _⟩
    · unfold appendD
      rw [if_neg (by omega), if_neg (by show ¬ (need x.length + t > half s.b.length); omega)]
      show ((putD s ((1 + a * half s.b.length + t) * 16) l.length x).1, (putD s ((1 + a * half s.b.length + t) * 16) l.length x).2, _) = _
      rw [hat, p1, if_pos rfl]
    · rw [p2]; exact g1
    · rw [p2]; exact g2
  · exact absurd hcm.up.fuse p2
  · exact absurd hcm.up.fuse p2
/-- an Append, cut anywhere, and a crash behind it -/
theorem cut_append {s : D} (o : Ok s) (hdn : s.down = false) (hold : s.old = s.b) {a t : Nat} {l : List By} (h : Good s.b a l t) (hc : Clean s.b a t) {x : By} (hr : ∀ y ∈ x, 0 ≤ y ∧ y ≤ 255) (hx : x.length ≤ 16384) (keep : List Bool) :
    ((appendD s ⟨a, l, t⟩ x).2.1 = 0 ∧ Good ((appendD s ⟨a, l, t⟩ x).1.crash keep).b a (l ++ [x]) (t + need x.length)) ∨ ((appendD s ⟨a, l, t⟩ x).2.1 = 51 ∧ Good ((appendD s ⟨a, l, t⟩ x).1.crash keep).b a l t) ∨
    ((appendD s ⟨a, l, t⟩ x).2.1 = 31 ∧ (Good ((appendD s ⟨a, l, t⟩ x).1.crash keep).b a l t ∨ Good ((appendD s ⟨a, l, t⟩ x).1.crash keep).b a (l ++ [x]) (t + need x.length))) := by
  by_cases hf : t + need x.length ≤ half s.b.length
  · have hbl := base_le h.a1 h.len
    have hat : (1 + a * half s.b.length + t) * 16 = base s.b.length a + t * 16 := by unfold base; rw [Nat.add_mul (1 + a * half s.b.length) t 16]
    have hfit : base s.b.length a + t * 16 + need x.length * 16 ≤ s.b.length := by omega
    obtain ⟨g1, g2⟩ := full_good h hc hx hf
    have e : (appendD s ⟨a, l, t⟩ x).1 = (putD s (base s.b.length a + t * 16) l.length x).1 ∧ (appendD s ⟨a, l, t⟩ x).2.1 = (putD s (base s.b.length a + t * 16) l.length x).2 := by
      unfold appendD
      rw [if_neg (by omega), if_neg (by show ¬ (need x.length + t > half s.b.length); omega), ← hat]
      exact ⟨rfl, rfl⟩
    rw [e.1, e.2]
    have oP := putD_ok o (base s.b.length a + t * 16) l.length hr
    have hlP := putD_len o (base s.b.length a + t * 16) l.length hr
    have hcl := crash_blen oP keep
    have hn := need_pos x.length
    have hpart : splice s.b (base s.b.length a + t * 16 + 16) (pad x) = splice s.b (base s.b.length a + t * 16 + 16) (pad x) := rfl
    rcases put_cases o hdn hold (base s.b.length a + t * 16) l.length hr hfit with ⟨p1, p2, p3, p4, p5⟩ | ⟨p1, _, p3, p4⟩ | ⟨p1, _, p3, p4⟩
    · refine .inl ⟨p1, ?_⟩
      rw [crash_same oP (p3.trans p2.symm), p2]
      exact g1
    · refine .inr (.inr ⟨p1, .inl (part_good h hf (hcl.trans hlP) fun i hi => ?_)⟩)
      -- what lies in a sector that is not touched is as it was
      have hsame : ∀ j, ¬ (base s.b.length a + t * 16 + 16 ≤ j ∧ j < base s.b.length a + t * 16 + need x.length * 16) → (putD s (base s.b.length a + t * 16) l.length x).1.b[j]? = s.b[j]? := fun j hj => by
        rcases p4 with p4 | p4
        · rw [p4]
        · rw [p4]; exact part_get hfit j hj
      have h16 : ∃ q, base s.b.length a + t * 16 = q * 16 := ⟨1 + a * half s.b.length + t, hat.symm⟩
      obtain ⟨q, hq⟩ := h16
      rw [crash_alike oP keep (by rw [p3, hsame i hi]) (fun j hj => by rw [p3, hsame j (by omega)]), hsame i hi]
    · have hone : ∀ j, j / 16 ≠ (1 + a * half s.b.length + t) → (putD s (base s.b.length a + t * 16) l.length x).1.old[j]? = (putD s (base s.b.length a + t * 16) l.length x).1.b[j]? := fun j hj => by
        rcases p4 with p4 | p4
        · rw [p3, p4]
        · have e3 := getElem?_splice (splice s.b (base s.b.length a + t * 16 + 16) (pad x)) (base s.b.length a + t * 16) (hd l.length x) (by rw [part_len hfit, hd_len]; omega) j
          rw [if_neg (by rw [hd_len]; omega)] at e3
          rw [p3, p4, e3]
      have hF1 : Good (splice s.b (base s.b.length a + t * 16 + 16) (pad x)) a l t := part_good h hf (part_len hfit) (fun i hi => part_get hfit i hi)
      refine .inr (.inr ⟨p1, ?_⟩)
      rcases crash_one oP keep _ hone with c | c
      · rw [c]
        rcases p4 with p4 | p4
        · rw [p4]; exact .inl hF1
        · rw [p4]; exact .inr g1
      · rw [c, p3]
        exact .inl hF1
  · have e := append_full (s := s) (G := ⟨a, l, t⟩) hx (by show half s.b.length < need x.length + t; omega)
    rw [e]
    refine .inr (.inl ⟨rfl, ?_⟩)
    show Good (s.crash keep).b a l t
    rw [crash_same o hold]
    exact h
end Go.Proofs.YtnobhjpobnmiaaaDoor.Wl
