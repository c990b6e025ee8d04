/- A disk and its log: the live question. -/
import Derived.Test.YtnobhjpobnmiaaaDoorWlV
import Derived.Test.YtnobhjpobnmiaaaDoorWl16
/- A log, without memory: what a Start, cut anywhere, leaves. -/
namespace Go.Proofs.YtnobhjpobnmiaaaDoor.Wl
open Go Go.RowKit Go.Proofs.YtnobhjpobnmiaaaDoor.Sk
set_option linter.unusedVariables false
set_option linter.unusedSimpArgs false

/-- alike but for an area -/
def Out (b c : By) (o : Nat) : Prop := c.length = b.length ∧ ∀ i, ¬ (base b.length o ≤ i ∧ i < base b.length o + half b.length * 16) → c[i]? = b[i]?
theorem out_refl (b : By) (o : Nat) : Out b b o := ⟨rfl, fun _ _ => rfl⟩
theorem out_splice {b c x : By} {o p : Nat} (h : Out b c o) (h1 : base b.length o ≤ p) (h2 : p + x.length ≤ base b.length o + half b.length * 16) (h3 : p + x.length ≤ b.length) : Out b (splice c p x) o := by
  refine ⟨(splice_len _ _ _ (by rw [h.1]; exact h3)).trans h.1, fun i hi => ?_⟩
  rw [getElem?_splice _ _ _ (by rw [h.1]; exact h3), if_neg (by omega)]
  exact h.2 i hi
theorem out_good {b c : By} {a t : Nat} {l : List By} (h : Good b a l t) (hb : 48 ≤ b.length) (hc : Out b c (1 - a)) : Good c a l t := by
  have ha := h.a1
  have hth := h.th
  have hh : 1 ≤ half b.length := by unfold half; omega
  have hd1 : ∀ i, base b.length a ≤ i → i < base b.length a + half b.length * 16 → c[i]? = b[i]? := fun i h1 h2 => hc.2 i (by
    unfold base at h1 h2 ⊢
    rcases (show a = 0 ∨ a = 1 by omega) with rfl | rfl
    · rw [show (1 - 0) = 1 from rfl]; omega
    · rw [show (1 - 1) = 0 from rfl]; omega)
  refine h.agree hc.1 (fun i hi => hc.2 i (by have := base_ge b.length (1 - a); omega)) (fun i h1 h2 => hd1 i h1 (by omega)) (fun ht i h1 h2 => hd1 i (by omega) (by omega))
theorem out_crash {s : D} (o : Ok s) {b : By} {p : Nat} (hp : p ≤ 1) (hb : 48 ≤ b.length) (h1 : Out b s.b p) (h2 : Out b s.old p) (keep : List Bool) : Out b (s.crash keep).b p := by
  refine ⟨(crash_blen o keep).trans h1.1, fun i hi => ?_⟩
  have hq : base b.length p = (1 + p * half b.length) * 16 := rfl
  obtain ⟨q, hq2⟩ : ∃ q, 1 + p * half b.length = q := ⟨_, rfl⟩
  rw [hq2] at hq
  rw [crash_alike o keep ((h2.2 i hi).trans (h1.2 i hi).symm) (fun j hj => (h2.2 j (by omega)).trans (h1.2 j (by omega)).symm)]
  exact h1.2 i hi
section
variable {s : D} {a t : Nat} {l : List By} {x : By}
/-- the bytes behind a Start -/
def begun (b : By) (o : Nat) (x : By) : By := splice (full (splice b (base b.length o) (zer (half b.length * 16))) (base b.length o) 0 x) 0 (sign o)
theorem begun_good {b : By} {o : Nat} (ho : o ≤ 1) (hb : 48 ≤ b.length) (hx : x.length ≤ 16384) (hf : need x.length ≤ half b.length) : Good (begun b o x) o [x] (need x.length) ∧ Clean (begun b o x) o (need x.length) := by
  have hbl := base_le ho hb
  have hbg := base_ge b.length o
  have hn := need_pos x.length
  have hzl : (zer (half b.length * 16)).length = half b.length * 16 := zer_len _
  obtain ⟨B1, hB1⟩ : ∃ B1, splice b (base b.length o) (zer (half b.length * 16)) = B1 := ⟨_, rfl⟩
  have hB1l : B1.length = b.length := by rw [← hB1]; exact splice_len _ _ _ (by rw [hzl]; omega)
  have hB1g : ∀ i, base b.length o ≤ i → i < base b.length o + half b.length * 16 → B1[i]? = some 0 := fun i h1 h2 => by
    rw [← hB1, getElem?_splice _ _ _ (by rw [hzl]; omega), if_pos (by rw [hzl]; omega), zer_get, if_pos (by omega)]
  have hsl : (sign (o : Int)).length = 16 := rfl
  obtain ⟨B0, hB0⟩ : ∃ B0, splice B1 0 (sign o) = B0 := ⟨_, rfl⟩
  have hB0l : B0.length = b.length := by rw [← hB0, splice_len _ _ _ (by rw [hsl, hB1l]; omega), hB1l]
  have hB0g : ∀ i, B0[i]? = if i < 16 then (sign (o : Int))[i]? else B1[i]? := fun i => by
    rw [← hB0, getElem?_splice _ _ _ (by rw [hsl, hB1l]; omega), hsl]
    by_cases c : i < 16
    · rw [if_pos (by omega), if_pos c, Nat.sub_zero]
    · rw [if_neg (by omega), if_neg c]
  have hclean0 : Clean B0 o 0 := by
    intro i h1 h2
    rw [hB0l] at h1 h2
    rw [hB0g, if_neg (by omega)]
    exact hB1g i (by omega) h2
  have hgood0 : Good B0 o [] 0 := by
    refine ⟨by rw [hB0l]; exact hb, ho, .inl ?_, Nat.zero_le _, ?_, fun ht => ?_⟩
    · have := sub_eq (b := B0) (x := sign (o : Int)) (o := 0) (fun i hi => by rw [Nat.zero_add, hB0g, if_pos (by rw [hsl] at hi; exact hi)])
      rw [hsl] at this
      exact this
    · have : sub B0 (base B0.length o) (0 * 16) = [] := by unfold sub; simp
      rw [this]
      exact Enc.nil _
    · refine sub_eq (x := zer 16) fun i hi => ?_
      have hi : i < 16 := hi
      rw [hB0l] at ht
      rw [zer_get, if_pos hi, hclean0 _ (by omega) (by rw [hB0l]; omega)]
  have hfit : base b.length o + need x.length * 16 ≤ B1.length := by rw [hB1l]; omega
  have hFl : (full B1 (base b.length o) 0 x).length = b.length := (full_len hfit).trans hB1l
  have hbe : begun b o x = splice (full B1 (base b.length o) 0 x) 0 (sign o) := by unfold begun; rw [hB1]
  have hg : ∀ i, (begun b o x)[i]? = if i < 16 then (sign (o : Int))[i]? else (full B1 (base b.length o) 0 x)[i]? := fun i => by
    rw [hbe, getElem?_splice _ _ _ (by rw [hsl, hFl]; omega), hsl]
    by_cases c : i < 16
    · rw [if_pos (by omega), if_pos c, Nat.sub_zero]
    · rw [if_neg (by omega), if_neg c]
  have hcl : (begun b o x).length = B0.length := by rw [hbe, splice_len _ _ _ (by rw [hsl, hFl]; omega), hFl, hB0l]
  have := hgood0.snoc (c := begun b o x) hclean0 hcl hx (by rw [hB0l]; omega) (fun i hi => by
    rw [hB0l] at hi
    rw [hg, hB0g]
    by_cases c : i < 16
    · rw [if_pos c, if_pos c]
    · rw [if_neg c, if_neg c]
      exact full_far hfit i (by omega)) (by
    rw [hB0l, Nat.zero_mul, Nat.add_zero]
    have e := full_sub (k := 0) hfit
    show _ = hd 0 x ++ pad x
    rw [← e]
    exact sub_ext fun i h1 h2 => by rw [hg, if_neg (by omega)])
  rw [Nat.zero_add] at this
  exact this
/-- what a Start leaves, wherever it is cut -/
theorem start_any (o : Ok s) (hdn : s.down = false) (hold : s.old = s.b) (ha : a ≤ 1) (hb : 48 ≤ s.b.length) (hr : ∀ y ∈ x, 0 ≤ y ∧ y ≤ 255) (hx : x.length ≤ 16384) (hf : need x.length ≤ half s.b.length) :
    ((startP s a x).2 = 0 ∧ (startP s a x).1.b = begun s.b a x ∧ (startP s a x).1.old = begun s.b a x ∧ (startP s a x).1.down = false ∧ (s.fuse = -1 → (startP s a x).1.fuse = -1)) ∨
    ((startP s a x).2 = 31 ∧ s.fuse ≠ -1 ∧ Out s.b (startP s a x).1.b a ∧ Out s.b (startP s a x).1.old a) ∨
    ((startP s a x).2 = 31 ∧ s.fuse ≠ -1 ∧ (startP s a x).1.b = begun s.b a x ∧ (startP s a x).1.old = full (splice s.b (base s.b.length a) (zer (half s.b.length * 16))) (base s.b.length a) 0 x) := by
  have hbl := base_le ha hb
  have hbg := base_ge s.b.length a
  have hn := need_pos x.length
  have hat : (1 + a * half s.b.length + 0) * 16 = base s.b.length a := rfl
  have hzl : (zer (half s.b.length * 16)).length = half s.b.length * 16 := zer_len _
  have hz0 : zer (half s.b.length * 16) ≠ [] := fun e => by
    have := congrArg List.length e
    rw [hzl] at this
    have : half s.b.length * 16 = 0 := this
    omega
  unfold startP
  rw [hat]
  have o1 := wst_ok o ((base s.b.length a : Nat) : Int) (zer (half s.b.length * 16)) (zer_range _)
  rcases wst_b o (a := base s.b.length a) (x := zer (half s.b.length * 16)) hdn (by rw [hzl]; omega) with ⟨_, h2⟩ | ⟨h1, _, h2⟩ | ⟨_, _, h2, b1, l1, d1, f1⟩
  · exact absurd h2 hz0
  · refine .inr (.inl ?_)
    rw [h2, thn_stop (show ¬ (31 : Int) = 0 by decide)]
    exact ⟨rfl, by rw [h1]; decide, out_refl _ _, by show Out s.b s.old a; rw [hold]; exact out_refl _ _⟩
  · rw [thn_go h2]
    obtain ⟨s1, hs1⟩ : ∃ s1, (wst s ((base s.b.length a : Nat) : Int) (zer (half s.b.length * 16))).1 = s1 := ⟨_, rfl⟩
    rw [hs1] at o1 b1 l1 d1 f1 ⊢
    have hB1l : s1.b.length = s.b.length := by rw [b1]; exact splice_len _ _ _ (by rw [hzl]; omega)
    have out1 : Out s.b s1.b a := by rw [b1]; exact out_splice (out_refl _ _) (Nat.le_refl _) (by rw [hzl]; omega) (by rw [hzl]; omega)
    have outO : Out s.b s1.old a := by rw [l1, hold]; exact out_refl _ _
    have hfit : base s.b.length a + need x.length * 16 ≤ s1.b.length := by rw [hB1l]; omega
    have outF1 : Out s.b (splice s1.b (base s.b.length a + 16) (pad x)) a := out_splice out1 (by omega) (by rw [pad_len]; omega) (by rw [pad_len]; omega)
    have outF2 : Out s.b (splice (splice s1.b (base s.b.length a + 16) (pad x)) (base s.b.length a) (hd 0 x)) a := out_splice outF1 (Nat.le_refl _) (by rw [hd_len]; omega) (by rw [hd_len]; omega)
    have o2 := putD_ok o1 (base s.b.length a) 0 hr
    have l2 := putD_len o1 (base s.b.length a) 0 hr
    rcases put_any o1 d1 (base s.b.length a) 0 hr hfit with ⟨p1, p2, p3, p4, p5⟩ | ⟨p1, p2, p3, p4⟩ | ⟨p1, p2, p3, p4⟩
    · rw [thn_go p1]
      obtain ⟨s2, hs2⟩ : ∃ s2, (putD s1 (base s.b.length a) 0 x).1 = s2 := ⟨_, rfl⟩
      rw [hs2] at p2 p3 p4 p5 o2 l2 ⊢
      have hsg : (sign (a : Int)).length = 16 := rfl
      have e2 : s2.b = full (splice s.b (base s.b.length a) (zer (half s.b.length * 16))) (base s.b.length a) 0 x := by rw [p2, b1]; rfl
      rcases wst_b o2 (a := 0) (x := sign (a : Int)) p4 (by rw [hsg, l2, hB1l]; omega) with ⟨_, h5⟩ | ⟨h5, _, h6⟩ | ⟨_, _, h6, b3, l3, d3, f3⟩
      · cases h5
      · refine .inr (.inl ?_)
        rw [h6, thn_stop (show ¬ (31 : Int) = 0 by decide)]
        exact ⟨rfl, fun c => by have := p5 (f1 c); omega, by show Out s.b s2.b a; rw [p2]; exact outF2, by show Out s.b s2.old a; rw [p3]; exact outF2⟩
      · rw [thn_go h6]
        have b3' : (wst s2 ((0 : Nat) : Int) (sign (a : Int))).1.b = begun s.b a x := by rw [b3, e2]; rfl
        rcases sync_b d3 with ⟨h7, h8⟩ | ⟨_, h8, b4, l4, d4, f4⟩
        · refine .inr (.inr ?_)
          rw [h8, thn_stop (show ¬ (31 : Int) = 0 by decide)]
          exact ⟨rfl, fun c => by have := f3 (p5 (f1 c)); omega, b3', by show (wst s2 ((0 : Nat) : Int) (sign (a : Int))).1.old = _; rw [l3, p3, b1]; rfl⟩
        · refine .inl ?_
          rw [thn_go h8]
          exact ⟨rfl, b4.trans b3', l4.trans b3', d4, fun c => f4 (f3 (p5 (f1 c)))⟩
    · refine .inr (.inl ?_)
      rw [thn_stop (by rw [p1]; decide)]
      refine ⟨p1, fun c => p2 (f1 c), ?_, by rw [p3]; exact outO⟩
      rcases p4 with p4 | p4
      · rw [p4]; exact out1
      · rw [p4]; exact outF1
    · refine .inr (.inl ?_)
      rw [thn_stop (by rw [p1]; decide)]
      refine ⟨p1, fun c => p2 (f1 c), ?_, by rw [p3]; exact outF1⟩
      rcases p4 with p4 | p4
      · rw [p4]; exact outF1
      · rw [p4]; exact outF2
/-- a Start, cut anywhere, and a crash behind it -/
theorem cut_start (o : Ok s) (hdn : s.down = false) (hold : s.old = s.b) (h : Good s.b a l t) (hr : ∀ y ∈ x, 0 ≤ y ∧ y ≤ 255) (hx : x.length ≤ 16384) (keep : List Bool) :
    ((startD s ⟨a, l, t⟩ x).2.1 = 0 ∧ Good ((startD s ⟨a, l, t⟩ x).1.crash keep).b (1 - a) [x] (need x.length)) ∨ ((startD s ⟨a, l, t⟩ x).2.1 = 51 ∧ Good ((startD s ⟨a, l, t⟩ x).1.crash keep).b a l t) ∨
    ((startD s ⟨a, l, t⟩ x).2.1 = 31 ∧ (Good ((startD s ⟨a, l, t⟩ x).1.crash keep).b a l t ∨ Good ((startD s ⟨a, l, t⟩ x).1.crash keep).b (1 - a) [x] (need x.length))) := by
  by_cases hf : need x.length ≤ half s.b.length
  · have ha := h.a1
    have hb := h.len
    have e : (startD s ⟨a, l, t⟩ x).1 = (startP s (1 - a) x).1 ∧ (startD s ⟨a, l, t⟩ x).2.1 = (startP s (1 - a) x).2 := by
      unfold startD
      rw [if_neg (by omega), if_neg (by omega)]
      exact ⟨rfl, rfl⟩
    rw [e.1, e.2]
    have oP := startP_ok o (show 1 - a ≤ 1 by omega) hr
    have hgo : ∀ c, Out s.b c (1 - a) → Good c a l t := fun c hc => out_good h hb hc
    rcases start_any o hdn hold (show 1 - a ≤ 1 by omega) hb hr hx hf with ⟨p1, p2, p3, p4, p5⟩ | ⟨p1, p2, p3, p4⟩ | ⟨p1, p2, p3, p4⟩
    · refine .inl ⟨p1, ?_⟩
      rw [crash_same oP (p3.trans p2.symm), p2]
      exact (begun_good (by omega) hb hx hf).1
    · exact .inr (.inr ⟨p1, .inl (hgo _ (out_crash oP (by omega) hb p3 p4 keep))⟩)
    · refine .inr (.inr ⟨p1, ?_⟩)
      have hbl := base_le (show 1 - a ≤ 1 by omega) hb
      have hbg := base_ge s.b.length (1 - a)
      have hn := need_pos x.length
      have hzl : (zer (half s.b.length * 16)).length = half s.b.length * 16 := zer_len _
      have out1 : Out s.b (splice s.b (base s.b.length (1 - a)) (zer (half s.b.length * 16))) (1 - a) := out_splice (out_refl _ _) (Nat.le_refl _) (by rw [hzl]; omega) (by rw [hzl]; omega)
      have outF : Out s.b (full (splice s.b (base s.b.length (1 - a)) (zer (half s.b.length * 16))) (base s.b.length (1 - a)) 0 x) (1 - a) := by
        unfold full
        exact out_splice (out_splice out1 (by omega) (by rw [pad_len]; omega) (by rw [pad_len]; omega)) (Nat.le_refl _) (by rw [hd_len]; omega) (by rw [hd_len]; omega)
      have hone : ∀ j, j / 16 ≠ 0 → (startP s (1 - a) x).1.old[j]? = (startP s (1 - a) x).1.b[j]? := fun j hj => by
        have e3 := getElem?_splice (full (splice s.b (base s.b.length (1 - a)) (zer (half s.b.length * 16))) (base s.b.length (1 - a)) 0 x) 0 (sign ((1 - a : Nat) : Int)) (by rw [outF.1]; show 0 + 16 ≤ _; omega) j
        rw [if_neg (by show ¬ (0 ≤ j ∧ j < 0 + 16); omega)] at e3
        rw [p4, p3]
        unfold begun
        rw [e3]
      rcases crash_one oP keep 0 hone with c | c
      · rw [c, p3]
        exact .inr (begun_good (by omega) hb hx hf).1
      · rw [c, p4]
        exact .inl (hgo _ outF)
  · have e := start_full (s := s) (G := ⟨a, l, t⟩) hx (by omega)
    rw [e]
    refine .inr (.inl ⟨rfl, ?_⟩)
    show Good (s.crash keep).b a l t
    rw [crash_same o hold]
    exact h
/-- a Start that has room, on a disk that is well -/
theorem calm_start (o : Ok s) (hcm : Calm s) (h : Good s.b a l t) (hr : ∀ y ∈ x, 0 ≤ y ∧ y ≤ 255) (hx : x.length ≤ 16384) (hf : need x.length ≤ half s.b.length) :
    ∃ s', startD s ⟨a, l, t⟩ x = (s', 0, ⟨1 - a, [x], need x.length⟩) ∧ Calm s' ∧ Ok s' ∧ Good s'.b (1 - a) [x] (need x.length) ∧ Clean s'.b (1 - a) (need x.length) := by
  have hg := begun_good (b := s.b) (o := 1 - a) (x := x) (by omega) h.len hx hf
  rcases start_any o hcm.up.down hcm.old (show 1 - a ≤ 1 by omega) h.len hr hx hf with ⟨p1, p2, p3, p4, p5⟩ | ⟨_, p2, _⟩ | ⟨_, p2, _⟩
  · refine ⟨(startP s (1 - a) x).1, ?_, ⟨⟨p4, p5 hcm.up.fuse⟩, p3.trans p2.symm⟩, startP_ok o (by omega) hr, by rw [p2]; exact hg.1, by rw [p2]; exact hg.2⟩
    unfold startD
    rw [if_neg (by omega), if_neg (by omega)]
    show ((startP s (1 - a) x).1, (startP s (1 - a) x).2, _) = _
    rw [p1, if_pos rfl]
  · exact absurd hcm.up.fuse p2
  · exact absurd hcm.up.fuse p2
end
end Go.Proofs.YtnobhjpobnmiaaaDoor.Wl
namespace Go.Proofs.YtnobhjpobnmiaaaDoor.Wl
open Go Go.RowKit Go.Maps Go.Proofs Go.Proofs.YtnobhjpobnmiaaaDoor.Sk Go.Proofs.YtnobhjpobnmiaaaDoorW.PrintWords Go.Proofs.YtnobhjpobnmiaaaDoorW.PrintLast Go.Proofs.YtnobhjpobnmiaaaDoorW.PrintMore
set_option linter.unusedVariables false
set_option linter.unusedSimpArgs false

def h0 : D := made (zer (13 * 16))
def g0 : LS := ⟨0, [], 0⟩
def h1 : D := (appendD h0 g0 (zer 17)).1
def g1 : LS := ⟨0, [zer 17], 3⟩
def h2 : D := (appendD h1 g1 []).1
def g2 : LS := ⟨0, [zer 17, []], 4⟩
def h3 : D := (startD h2 g2 [122]).1
def g3 : LS := ⟨1, [[122]], 2⟩
theorem h0_len : h0.b.length = 208 := zer_len _
set_option maxRecDepth 100000 in
theorem a1 : (appendD h0 g0 (zer 17)).2.1 = 0 ∧ Up h1 ∧ Ok h1 ∧ h1.b.length = 208 ∧ h1.acts ≤ 4 ∧ (appendD h0 g0 (zer 17)).2.2 = g1 := by
  have := up_append (G := g0) (made_up 13) (made_ok 13 (by decide) (by decide)) (by show 48 ≤ h0.b.length; rw [h0_len]; decide) (by decide) (b := zer 17) (zer_range _) (by rw [zer_len]; decide) (by show _ ≤ half h0.b.length; rw [h0_len, zer_len]; decide)
  exact ⟨this.1, this.2.1, this.2.2.1, this.2.2.2.1.trans h0_len, this.2.2.2.2.1, this.2.2.2.2.2⟩
set_option maxRecDepth 100000 in
theorem a2 : (appendD h1 g1 []).2.1 = 0 ∧ Up h2 ∧ Ok h2 ∧ h2.b.length = 208 ∧ h2.acts ≤ 8 ∧ (appendD h1 g1 []).2.2 = g2 := by
  have h := a1
  have := up_append (G := g1) h.2.1 h.2.2.1 (by rw [h.2.2.2.1]; decide) (by decide) (b := []) (by simp) (by decide) (by rw [h.2.2.2.1]; decide)
  exact ⟨this.1, this.2.1, this.2.2.1, this.2.2.2.1.trans h.2.2.2.1, by have := this.2.2.2.2.1; have := h.2.2.2.2.1; show (appendD h1 g1 []).1.acts ≤ 8; omega, this.2.2.2.2.2⟩
set_option maxRecDepth 100000 in
theorem a3 : appendD h2 g2 (zer 40) = (h2, 51, g2) := append_full (by rw [zer_len]; decide) (by rw [a2.2.2.2.1, zer_len]; decide)
set_option maxRecDepth 100000 in
theorem a4 : openD h2 = (some g2, 0, h2) := by kernel_rfl
set_option maxRecDepth 100000 in
theorem a5 : (startD h2 g2 [122]).2.1 = 0 ∧ Up h3 ∧ (startD h2 g2 [122]).2.2 = g3 := up_start (G := g2) a2.2.1 a2.2.2.1 (by rw [a2.2.2.2.1]; decide) (by decide) (by decide) (by decide) (by rw [a2.2.2.2.1]; decide)
set_option maxRecDepth 100000 in
theorem a6 : h3.read 0 2 = ([87, 1], 0) := by decide +kernel
set_option maxRecDepth 100000 in
theorem a7 : roomN (half h3.b.length) 4 = 16 := by decide +kernel
end Go.Proofs.YtnobhjpobnmiaaaDoor.Wl
