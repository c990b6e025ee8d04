/- Ranges: what Freeze, Install, Drop and State answer (the program's), and what becomes of a directory's range. -/
import Derived.Test.YtinjajpnbbknnaaRngA
import Derived.Test.YtinjajpnbbknnaaQx8
namespace Go.Proofs.Ytinjajpnbbknnaa.Rng
open Go Go.RowKit Go.Proofs.Ytinjajpnbbknnaa.Rune Go.Proofs.Ytinjajpnbbknnaa.Split Go.Proofs.Ytinjajpnbbknnaa.PathT Go.Proofs.Ytinjajpnbbknnaa.PathF Go.Proofs.Ytinjajpnbbknnaa.Q Go.Proofs.Ytinjajpnbbknnaa.FRange Go.Proofs.Ytinjajpnbbknnaa.RPut Go.Proofs.YtinjajpnbbknnaaW.PrintWords Go.Proofs.YtinjajpnbbknnaaW.PrintLast Go.Proofs.YtinjajpnbbknnaaW.PrintMore

def frzR (l : List S) (p : ByteArray) : List S × Bool := match ofR l p with | none => ([], false) | some s => if s.f2 = 1 then putR l ⟨p, s.f1, 2⟩ else ([], false)
def insR (l : List S) (p : ByteArray) (e : Int) : List S × Bool :=
  if RightB l = true ∧ isP p = true ∧ 0 ≤ e ∧ e ≤ 281474976710656 then (match getO l p with | none => putR l ⟨p, e, 1⟩ | some s => if s.f1 ≥ e then ([], false) else putR l ⟨p, e, 1⟩) else ([], false)
def drpR (l : List S) (p : ByteArray) (e : Int) : List S × Bool :=
  if RightB l = true then (match getO l p with | none => ([], false) | some s => if s.f2 = 2 ∧ s.f1 = e then putR l ⟨p, e, 3⟩ else ([], false)) else ([], false)
def staR (l : List S) (d : ByteArray) : Int := match ofR l d with | none => 3 | some s => s.f2
theorem ofR_right {l : List S} {d : ByteArray} {s : S} (h : ofR l d = some s) : RightM l ∧ ofO l d = some s := by
  unfold ofR at h
  by_cases c : RightB l = true
  · rw [if_pos c] at h; exact ⟨(right_iff l).1 c, h⟩
  · rw [if_neg c] at h; cases h
theorem freeze_is (l : List S) (hl : l.length ≤ 1000000) (p : ByteArray) (k : Nat) (hk : 2 * l.length + 1 < k) : owned_Freeze.f k l p = some (frzR l p) := by
  unfold owned_Freeze.f frzR
  obtain ⟨y, hy, hf⟩ := of_is l p (by omega) k hk
  rw [hf, Option.bind_some]
  rcases hy with ⟨rfl, ho⟩ | ⟨a, rfl, ha, ho⟩
  · rw [if_pos (by omega), ho]
  · have hR := (ofR_right ho).1
    have hfew := hR.few
    rw [if_neg (by omega), if_pos (by omega), if_pos (by omega), ho]
    show (if (rd l (a : Int)).f2 = 1 then _ else _) = some (if (rd l (a : Int)).f2 = 1 then _ else _)
    by_cases c : (rd l (a : Int)).f2 = 1
    · rw [if_pos c, if_pos c, put_is hR.up (by omega), Option.bind_some]
    · rw [if_neg c, if_neg c]
theorem install_is (l : List S) (hl : l.length ≤ 1000000) (p : ByteArray) (e : Int) (k : Nat) (hk : 2 * l.length + 1 < k) : owned_Install.f k l p e = some (insR l p e) := by
  unfold owned_Install.f insR
  obtain ⟨k, rfl⟩ : ∃ m, k = m + 1 := ⟨k - 1, by omega⟩
  rw [right_is l (by omega) (k + 1) (by omega), Option.bind_some, PathF.right_is, Option.bind_some]
  have stop : owned_Install.j0 (k + 1) l p e true = some (([] : List S), false) := by rw [owned_Install.j0, if_pos rfl]
  by_cases c1 : RightB l = true
  · have hR := (right_iff l).1 c1
    have hfew := hR.few
    rw [if_pos c1]
    by_cases c2 : isP p = true
    · rw [if_pos c2]
      by_cases c3 : e < 0
      · rw [if_pos c3, stop, if_neg (by omega)]
      · rw [if_neg c3]
        by_cases c4 : e > 281474976710656
        · rw [decide_eq_true c4, stop, if_neg (by omega)]
        · rw [decide_eq_false c4, owned_Install.j0, if_neg (by simp), if_pos ⟨c1, c2, by omega, by omega⟩]
          obtain ⟨h1, h2⟩ := find_is hR.up (by omega) p
          rw [h1, Option.bind_some, put_is hR.up (by omega), Option.bind_some]
          cases hg : getO l p with
          | none => rfl
          | some s =>
            obtain ⟨h3, h4⟩ := h2 s hg
            have h4' : rd_T45 l (at_ p l : Nat) = s := h4
            rw [if_pos (show (some s).isSome = true from rfl)]
            show (if (0 : Int) ≤ ((at_ p l : Nat) : Int) then (if ((at_ p l : Nat) : Int) < _ then (if (rd_T45 l (at_ p l : Nat)).f1 ≥ e then _ else _) else _) else _) = _
            rw [if_pos (by omega), if_pos (by omega), h4']
            by_cases c5 : s.f1 ≥ e
            · rw [if_pos c5]
              show _ = some (if s.f1 ≥ e then _ else _)
              rw [if_pos c5]
            · rw [if_neg c5]
              show _ = some (if s.f1 ≥ e then _ else _)
              rw [if_neg c5]
    · rw [if_neg c2, stop, if_neg (fun h => c2 h.2.1)]
  · rw [if_neg c1, stop, if_neg (fun h => c1 h.1)]
theorem drop_is (l : List S) (hl : l.length ≤ 1000000) (p : ByteArray) (e : Int) (k : Nat) (hk : 2 * l.length + 1 < k) : owned_Drop.f k l p e = some (drpR l p e) := by
  unfold owned_Drop.f drpR
  rw [right_is l (by omega) k (by omega), Option.bind_some]
  by_cases c1 : RightB l = true
  · have hR := (right_iff l).1 c1
    have hfew := hR.few
    rw [if_pos c1, if_pos c1]
    obtain ⟨h1, h2⟩ := find_is hR.up (by omega) p
    rw [h1, Option.bind_some, put_is hR.up (by omega), Option.bind_some]
    cases hg : getO l p with
    | none => rfl
    | some s =>
      obtain ⟨h3, h4⟩ := h2 s hg
      have h4' : rd_T45 l (at_ p l : Nat) = s := h4
      rw [if_pos (show (some s).isSome = true from rfl)]
      show (if (0 : Int) ≤ ((at_ p l : Nat) : Int) then (if ((at_ p l : Nat) : Int) < _ then (if (rd_T45 l (at_ p l : Nat)).f2 = 2 then (if (rd_T45 l (at_ p l : Nat)).f1 = e then _ else _) else _) else _) else _) = some (if s.f2 = 2 ∧ s.f1 = e then _ else _)
      rw [if_pos (by omega), if_pos (by omega), h4']
      by_cases c5 : s.f2 = 2
      · rw [if_pos c5]
        by_cases c6 : s.f1 = e
        · rw [if_pos c6, if_pos ⟨c5, c6⟩]
        · rw [if_neg c6, if_neg (fun h => c6 h.2)]
      · rw [if_neg c5, if_neg (fun h => c5 h.1)]
  · rw [if_neg c1, if_neg c1]
theorem state_is (l : List S) (hl : l.length ≤ 1000000) (d : ByteArray) (k : Nat) (hk : 2 * l.length + 1 < k) : owned_State.f k l d = some (staR l d) := by
  unfold owned_State.f staR
  obtain ⟨y, hy, hf⟩ := of_is l d (by omega) k hk
  rw [hf, Option.bind_some]
  rcases hy with ⟨rfl, ho⟩ | ⟨a, rfl, ha, ho⟩
  · rw [if_neg (by omega), ho]
  · rw [if_pos (by omega), if_pos (by omega), if_pos (by omega), ho]
theorem great_loop (l : List S) (hl : l.length ≤ 9223372036854775000) (hs : ∀ x ∈ l, x.f0.size ≤ 9223372036854775807) : ∀ (post pre : List S) (k : Nat) (n : Nat), l = pre ++ post → post.length < k → n ≤ 9223372036854770000 →
    ∃ b, cantonlaw11_Great.l0 k l (n : Int) (pre.length : Int) = some b ∧ (b = false → n < 3000 ∧ ∀ x ∈ post, x.f0.size < 3000)
  | post, pre, 0, n, _, h, _ => absurd h (by omega)
  | [], pre, k + 1, n, he, _, hn => by
    rw [List.append_nil] at he
    subst he
    rw [cantonlaw11_Great.l0, if_neg (by omega)]
    refine ⟨_, rfl, fun h => ⟨?_, fun x hx => by simp at hx⟩⟩
    simp at h
    omega
  | x :: r, pre, k + 1, n, he, hk, hn => by
    have hlen : l.length = pre.length + (r.length + 1) := by rw [he]; simp
    have hx : rd l (pre.length : Int) = x := by rw [he]; exact rd_mid pre r x
    rw [cantonlaw11_Great.l0, if_pos (by omega)]
    by_cases h3 : (n : Int) < 3000
    · rw [if_pos h3, if_pos (by omega), show rd_T45 l (pre.length : Int) = x from hx]
      have hw : wrap64 ((pre.length : Int) + 1) = ((pre.length + 1 : Nat) : Int) := by rw [w64 (by omega) (by omega)]; omega
      obtain ⟨m, hm, hm2, hm3⟩ : ∃ m : Nat, wrap64 ((n : Int) + mn (x.f0.size : Int) 3000) = (m : Int) ∧ n + min x.f0.size 3000 = m ∧ m ≤ 6000 := by
        refine ⟨n + min x.f0.size 3000, ?_, rfl, by omega⟩
        rw [show mn (x.f0.size : Int) 3000 = ((min x.f0.size 3000 : Nat) : Int) by unfold mn; omega, w64 (by omega) (by omega)]
        omega
      rw [hm, hw]
      have ih := great_loop l hl hs r (pre ++ [x]) k m (by rw [he]; simp) (by simp at hk; omega) (by omega)
      rw [List.length_append, List.length_singleton] at ih
      obtain ⟨b, h4, h5⟩ := ih
      refine ⟨b, h4, fun hb => ?_⟩
      obtain ⟨h6, h7⟩ := h5 hb
      refine ⟨by omega, fun y hy => ?_⟩
      rcases List.mem_cons.1 hy with rfl | hy
      · omega
      · exact h7 y hy
    · rw [if_neg h3]
      refine ⟨_, rfl, fun h => ?_⟩
      simp at h
      omega
theorem great_is (l : List S) (hl : l.length ≤ 9223372036854770000) (hs : ∀ x ∈ l, x.f0.size ≤ 9223372036854775807) (k : Nat) (hk : l.length < k) :
    ∃ b, cantonlaw11_Great.f k l = some b ∧ (b = false → l.length < 3000 ∧ ∀ x ∈ l, x.f0.size < 3000) := by
  unfold cantonlaw11_Great.f
  obtain ⟨b, h1, h2⟩ := great_loop l (by omega) hs l [] k l.length rfl hk hl
  exact ⟨b, h1, h2⟩
theorem head_is (k : Nat) (hk : 50 ≤ k) : cantonlaw11_head.f k = some true := by
  obtain ⟨m, rfl⟩ : ∃ m, k = 50 + m := ⟨k - 50, by omega⟩
  exact cantonlaw11_head.mono_le 50 m true cantonlaw11_head.at50

/-! The range of a directory, as an element. -/
structure OfM (l : List S) (d : ByteArray) (y : S) : Prop where
  mem : y ∈ l
  isin : inP d y.f0 = true
  most : ∀ z ∈ l, inP d z.f0 = true → z.f0.size ≤ y.f0.size
theorem fold_is (d : ByteArray) : ∀ (l : List S) (o : Option S), (∀ b, o = some b → inP d b.f0 = true) →
    match l.foldl (stepO d) o with
    | none => o = none ∧ ∀ z ∈ l, inP d z.f0 = false
    | some y => (o = some y ∨ y ∈ l) ∧ inP d y.f0 = true ∧ (∀ z ∈ l, inP d z.f0 = true → z.f0.size ≤ y.f0.size) ∧ ∀ b, o = some b → b.f0.size ≤ y.f0.size
  | [], none, _ => ⟨rfl, by simp⟩
  | [], some b, h => ⟨.inl rfl, h b rfl, by simp, fun c e => by cases e; exact Nat.le_refl _⟩
  | x :: l, o, h => by
    rw [List.foldl_cons]
    have hstep : ∀ b, stepO d o x = some b → inP d b.f0 = true := by
      intro b e
      unfold stepO at e
      by_cases c : inP d x.f0 = true
      · rw [if_pos c] at e
        cases o with
        | none => cases e; exact c
        | some a =>
          dsimp only at e
          by_cases c2 : a.f0.size < x.f0.size
          · rw [if_pos c2] at e; cases e; exact c
          · rw [if_neg c2] at e; cases e; exact h _ rfl
      · rw [if_neg c] at e; exact h _ e
    have ih := fold_is d l (stepO d o x) hstep
    revert ih
    cases hq : l.foldl (stepO d) (stepO d o x) with
    | none =>
      rintro ⟨h1, h2⟩
      unfold stepO at h1
      by_cases c : inP d x.f0 = true
      · rw [if_pos c] at h1
        cases o with
        | none => cases h1
        | some a =>
          dsimp only at h1
          by_cases c2 : a.f0.size < x.f0.size
          · rw [if_pos c2] at h1; cases h1
          · rw [if_neg c2] at h1; cases h1
      · rw [if_neg c] at h1
        refine ⟨h1, fun z hz => ?_⟩
        rcases List.mem_cons.1 hz with rfl | hz
        · simpa using c
        · exact h2 z hz
    | some y =>
      rintro ⟨h1, h2, h3, h4⟩
      unfold stepO at h1 h4
      by_cases c : inP d x.f0 = true
      · rw [if_pos c] at h1 h4
        cases o with
        | none =>
          have hx := h4 x rfl
          refine ⟨.inr ?_, h2, fun z hz hd => ?_, fun b e => by cases e⟩
          · rcases h1 with h1 | h1
            · cases h1; simp
            · simp [h1]
          · rcases List.mem_cons.1 hz with rfl | hz
            · exact hx
            · exact h3 z hz hd
        | some a =>
          dsimp only at h1 h4
          by_cases c2 : a.f0.size < x.f0.size
          · rw [if_pos c2] at h1 h4
            have hx := h4 x rfl
            refine ⟨.inr ?_, h2, fun z hz hd => ?_, fun b e => by cases e; omega⟩
            · rcases h1 with h1 | h1
              · cases h1; simp
              · simp [h1]
            · rcases List.mem_cons.1 hz with rfl | hz
              · exact hx
              · exact h3 z hz hd
          · rw [if_neg c2] at h1 h4
            have ha := h4 a rfl
            refine ⟨?_, h2, fun z hz hd => ?_, fun b e => by cases e; exact ha⟩
            · rcases h1 with h1 | h1
              · exact .inl h1
              · exact .inr (by simp [h1])
            · rcases List.mem_cons.1 hz with rfl | hz
              · omega
              · exact h3 z hz hd
      · rw [if_neg c] at h1 h4
        refine ⟨?_, h2, fun z hz hd => ?_, h4⟩
        · rcases h1 with h1 | h1
          · exact .inl h1
          · exact .inr (by simp [h1])
        · rcases List.mem_cons.1 hz with rfl | hz
          · exact absurd hd c
          · exact h3 z hz hd
theorem ofO_some {l : List S} {d : ByteArray} {y : S} (h : ofO l d = some y) : OfM l d y := by
  have := fold_is d l none (fun b e => by cases e)
  unfold ofO at h
  rw [h] at this
  obtain ⟨h1, h2, h3, _⟩ := this
  refine ⟨?_, h2, h3⟩
  rcases h1 with h1 | h1
  · cases h1
  · exact h1
theorem ofO_none {l : List S} {d : ByteArray} (h : ofO l d = none) : ∀ z ∈ l, inP d z.f0 = false := by
  have := fold_is d l none (fun b e => by cases e)
  unfold ofO at h
  rw [h] at this
  exact this.2
theorem uniq {l : List S} (h : l.Pairwise Less) {y z : S} (hy : y ∈ l) (hz : z ∈ l) (e : y.f0 = z.f0) : y = z := by
  obtain ⟨i, hi, rfl⟩ := List.getElem_of_mem hy
  obtain ⟨j, hj, rfl⟩ := List.getElem_of_mem hz
  rcases Nat.lt_trichotomy i j with hlt | rfl | hlt
  · exact absurd e (lessB_ne (List.pairwise_iff_getElem.1 h i j hi hj hlt))
  · rfl
  · exact absurd e.symm (lessB_ne (List.pairwise_iff_getElem.1 h j i hj hi hlt))
theorem ofO_of {l : List S} (hu : l.Pairwise Less) {d : ByteArray} {y : S} (h : OfM l d y) : ofO l d = some y := by
  cases hq : ofO l d with
  | none => have h1 := h.isin; rw [ofO_none hq y h.mem] at h1; cases h1
  | some z =>
    have hz := ofO_some hq
    have h1 := hz.most y h.mem h.isin
    have h2 := h.most z hz.mem hz.isin
    rw [uniq hu hz.mem h.mem (in_eq (in_chain h.isin hz.isin h1) h2)]
theorem ofO_no {l : List S} {d : ByteArray} (h : ∀ z ∈ l, inP d z.f0 = false) : ofO l d = none := by
  cases hq : ofO l d with
  | none => rfl
  | some z =>
    have hz := ofO_some hq
    have h1 := hz.isin
    rw [h z hz.mem] at h1; cases h1
theorem getO_some {l : List S} {p : ByteArray} {y : S} (h : getO l p = some y) : y ∈ l ∧ y.f0 = p := by
  unfold getO at h
  exact ⟨List.mem_of_find?_eq_some h, by simpa using List.find?_some h⟩
theorem getO_none {l : List S} {p : ByteArray} (h : getO l p = none) : ∀ y ∈ l, y.f0 ≠ p := by
  unfold getO at h
  rw [List.find?_eq_none] at h
  intro y hy e
  exact h y hy (by simpa using e)
theorem getO_of {l : List S} (hu : l.Pairwise Less) {y : S} (h : y ∈ l) : getO l y.f0 = some y := by
  cases hq : getO l y.f0 with
  | none => exact absurd rfl (getO_none hq y h)
  | some z => obtain ⟨h1, h2⟩ := getO_some hq; rw [uniq hu h1 h h2]
theorem mem_put (x : S) : ∀ {l : List S}, l.Pairwise Less → ∀ y, y ∈ putL x l ↔ y = x ∨ (y ∈ l ∧ y.f0 ≠ x.f0)
  | [], _, y => by simp [putL]
  | z :: r, hu, y => by
    have hu2 := List.pairwise_cons.1 hu
    rw [putL]
    by_cases c : lessB z.f0 x.f0 = true
    · rw [if_pos c, List.mem_cons, mem_put x hu2.2 y, List.mem_cons]
      constructor
      · rintro (rfl | h | ⟨h1, h2⟩)
        · exact .inr ⟨.inl rfl, lessB_ne c⟩
        · exact .inl h
        · exact .inr ⟨.inr h1, h2⟩
      · rintro (h | ⟨rfl | h1, h2⟩)
        · exact .inr (.inl h)
        · exact .inl rfl
        · exact .inr (.inr ⟨h1, h2⟩)
    · rw [if_neg c]
      have c' : lessB z.f0 x.f0 = false := by simpa using c
      have hr : ∀ w ∈ r, w.f0 ≠ x.f0 := fun w hw e => by
        have h1 := hu2.1 w hw
        unfold Less at h1
        rw [e, c'] at h1; cases h1
      by_cases e : z.f0 = x.f0
      · rw [if_pos e, List.mem_cons, List.mem_cons]
        constructor
        · rintro (h | h)
          · exact .inl h
          · exact .inr ⟨.inr h, hr y h⟩
        · rintro (h | ⟨rfl | h1, h2⟩)
          · exact .inl h
          · exact absurd e h2
          · exact .inr h1
      · rw [if_neg e, List.mem_cons, List.mem_cons]
        constructor
        · rintro (h | rfl | h)
          · exact .inl h
          · exact .inr ⟨.inl rfl, e⟩
          · exact .inr ⟨.inr h, hr y h⟩
        · rintro (h | ⟨rfl | h1, h2⟩)
          · exact .inl h
          · exact .inr (.inl rfl)
          · exact .inr (.inr h1)
theorem put_up (x : S) : ∀ {l : List S}, l.Pairwise Less → (putL x l).Pairwise Less
  | [], _ => by simp [putL]
  | z :: r, hu => by
    have hu2 := List.pairwise_cons.1 hu
    rw [putL]
    by_cases c : lessB z.f0 x.f0 = true
    · rw [if_pos c]
      refine List.pairwise_cons.2 ⟨fun y hy => ?_, put_up x hu2.2⟩
      rcases (mem_put x hu2.2 y).1 hy with rfl | ⟨h, _⟩
      · exact c
      · exact hu2.1 y h
    · rw [if_neg c]
      have c' : lessB z.f0 x.f0 = false := by simpa using c
      by_cases e : z.f0 = x.f0
      · rw [if_pos e]
        refine List.pairwise_cons.2 ⟨fun y hy => ?_, hu2.2⟩
        have := hu2.1 y hy
        unfold Less at this ⊢
        rw [← e]; exact this
      · rw [if_neg e]
        have hx : lessB x.f0 z.f0 = true := by
          cases h : lessB x.f0 z.f0 with
          | true => rfl
          | false => exact absurd (lessB_total c' h) e
        refine List.pairwise_cons.2 ⟨fun y hy => ?_, hu⟩
        rcases List.mem_cons.1 hy with rfl | hy
        · exact hx
        · exact lessB_trans hx (hu2.1 y hy)
theorem put_len (x : S) : ∀ {l : List S}, l.Pairwise Less → (putL x l).length = if (getO l x.f0).isNone = true then l.length + 1 else l.length
  | [], _ => rfl
  | z :: r, hu => by
    have hu2 := List.pairwise_cons.1 hu
    rw [putL]
    by_cases c : lessB z.f0 x.f0 = true
    · rw [if_pos c, List.length_cons, put_len x hu2.2]
      have hg : getO (z :: r) x.f0 = getO r x.f0 := getO_app [z] r (by simpa using c)
      rw [hg]
      by_cases c2 : (getO r x.f0).isNone = true
      · rw [if_pos c2, if_pos c2]; rfl
      · rw [if_neg c2, if_neg c2]; rfl
    · have c' : lessB z.f0 x.f0 = false := by simpa using c
      rw [if_neg c, getO_drop hu c']
      by_cases e : z.f0 = x.f0
      · rw [if_pos e, if_pos e]; rfl
      · rw [if_neg e, if_neg e]; rfl
/-- behind a put that is done -/
structure Put (l : List S) (x : S) (m : List S) : Prop where
  right : RightM m
  long : l.length ≤ m.length ∧ m.length ≤ l.length + 1
  get : getO m x.f0 = some x
  at_ : ∀ d, inP d x.f0 = true → (∀ y ∈ l, inP d y.f0 = true → y.f0.size ≤ x.f0.size) → ofO m d = some x
  off : ∀ d, ¬ (inP d x.f0 = true ∧ ∀ y ∈ l, inP d y.f0 = true → y.f0.size ≤ x.f0.size) → ofO m d = ofO l d
theorem putR_cases {l : List S} (hR : RightM l) {x : S} (hx : okE x = true) : (putR l x = ([], false) ∧ getO l x.f0 = none ∧ l.length = 32) ∨ (putR l x = (putL x l, true) ∧ Put l x (putL x l)) := by
  unfold putR
  by_cases c : (getO l x.f0).isNone = true ∧ l.length = 32
  · rw [if_pos c]
    exact .inl ⟨rfl, by simpa using c.1, c.2⟩
  · rw [if_neg c]
    refine .inr ⟨rfl, ?_⟩
    have hm := mem_put x hR.up
    have hu := put_up x hR.up
    have hl := put_len x hR.up
    have hfew := hR.few
    have hxm : x ∈ putL x l := (hm x).2 (.inl rfl)
    refine ⟨⟨fun y hy => ?_, hu, ?_⟩, ?_, getO_of hu hxm, fun d h1 h2 => ?_, fun d h => ?_⟩
    · rcases (hm y).1 hy with rfl | ⟨h, _⟩
      · exact hx
      · exact hR.ok y h
    · rw [hl]
      by_cases c2 : (getO l x.f0).isNone = true
      · rw [if_pos c2]
        have : l.length ≠ 32 := fun e => c ⟨c2, e⟩
        omega
      · rw [if_neg c2]; exact hfew
    · rw [hl]
      by_cases c2 : (getO l x.f0).isNone = true
      · rw [if_pos c2]; omega
      · rw [if_neg c2]; omega
    · refine ofO_of hu ⟨hxm, h1, fun z hz hd => ?_⟩
      rcases (hm z).1 hz with rfl | ⟨h, _⟩
      · exact Nat.le_refl _
      · exact h2 z h hd
    · cases hq : ofO l d with
      | none =>
        have h1 := ofO_none hq
        refine ofO_no (fun z hz => ?_)
        rcases (hm z).1 hz with rfl | ⟨h2, _⟩
        · cases h3 : inP d z.f0 with
          | false => rfl
          | true => exact absurd ⟨h3, fun y hy hd => by rw [h1 y hy] at hd; cases hd⟩ h
        · exact h1 z h2
      | some y =>
        have hy := ofO_some hq
        have hne : y.f0 ≠ x.f0 := fun e => h ⟨by rw [← e]; exact hy.isin, fun z hz hd => by rw [← e]; exact hy.most z hz hd⟩
        refine ofO_of hu ⟨(hm y).2 (.inr ⟨hy.mem, hne⟩), hy.isin, fun z hz hd => ?_⟩
        rcases (hm z).1 hz with rfl | ⟨h2, _⟩
        · apply Nat.le_of_not_lt
          intro hlt
          exact h ⟨hd, fun w hw hdw => by have := hy.most w hw hdw; omega⟩
        · exact hy.most z h2 hd
theorem ofR_of {l : List S} (hR : RightM l) (d : ByteArray) : ofR l d = ofO l d := by
  unfold ofR
  rw [if_pos ((right_iff l).2 hR)]
/-- a put at p has the range of p be that -/
theorem Put.own {l m : List S} {x : S} (h : Put l x m) (hp : isP x.f0 = true) : ofR m x.f0 = some x := by
  rw [ofR_of h.right]
  refine h.at_ x.f0 (by rw [in_self]; exact hp) (fun y _ hy => in_size hy)
end Go.Proofs.Ytinjajpnbbknnaa.Rng
