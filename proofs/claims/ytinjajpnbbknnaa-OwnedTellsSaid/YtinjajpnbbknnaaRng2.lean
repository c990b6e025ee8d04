/- Ranges: what the document's answers cantonref11.Find, Put, Freeze, Install, Drop, State and Same answer, of lists alone. -/
import Derived.Test.YtinjajpnbbknnaaRng1
import Derived.Test.YtinjajpnbbknnaaRng0
import Derived.Test.YtinjajpnbbknnaaQx13
import Derived.Test.YtinjajpnbbknnaaQx14
namespace Go.Proofs.Ytinjajpnbbknnaa.Rng
open Go Go.RowKit Go.Proofs.Ytinjajpnbbknnaa.Rune Go.Proofs.Ytinjajpnbbknnaa.Split Go.Proofs.Ytinjajpnbbknnaa.PathT Go.Proofs.Ytinjajpnbbknnaa.PathF Go.Proofs.Ytinjajpnbbknnaa.Q Go.Proofs.Ytinjajpnbbknnaa.FRange Go.Proofs.Ytinjajpnbbknnaa.RPut Go.Proofs.YtinjajpnbbknnaaW.PrintWords Go.Proofs.YtinjajpnbbknnaaW.PrintLast Go.Proofs.YtinjajpnbbknnaaW.PrintMore
set_option linter.unusedVariables false
theorem rfind_loop (l : List S) (hl : l.length ≤ 100000) (p : ByteArray) : ∀ (post pre : List S) (k : Nat), l = pre ++ post → post.length < k → (∀ y ∈ pre, y.f0 ≠ p) →
    ∃ z : Int, cantonref11_Find.l0 k l p (pre.length : Int) = some z ∧ Rel l z (getO post p)
  | post, pre, 0, _, h, _ => absurd h (by omega)
  | [], pre, k + 1, he, _, _ => by
    rw [List.append_nil] at he
    subst he
    exact ⟨-1, by rw [cantonref11_Find.l0, if_neg (by omega)], .inl ⟨rfl, rfl⟩⟩
  | x :: r, pre, k + 1, he, hk, hp => by
    have hlen : l.length = pre.length + (r.length + 1) := by rw [he]; simp
    have hx : rd l (pre.length : Int) = x := by rw [he]; exact rd_mid pre r x
    have hw : wrap64 ((pre.length : Int) + 1) = (((pre ++ [x]).length : Nat) : Int) := by rw [w64 (by omega) (by omega)]; simp
    rw [cantonref11_Find.l0, if_pos (by omega), if_pos (by omega), show rd_T45 l (pre.length : Int) = x from hx, hw]
    unfold getO
    rw [List.find?_cons]
    by_cases e : x.f0 = p
    · rw [if_pos (by rw [e]), decide_eq_true e]
      exact ⟨_, rfl, .inr ⟨pre.length, rfl, by omega, by rw [hx]⟩⟩
    · rw [if_neg (fun h => e (by rw [toL, toL] at h; exact L_inj h)), decide_eq_false e]
      exact rfind_loop l hl p r (pre ++ [x]) k (by rw [he]; simp) (by simp at hk; omega) (fun y hy => by
        rcases List.mem_append.1 hy with h | h
        · exact hp y h
        · simp at h; rw [h]; exact e)
theorem rfind_is (l : List S) (hl : l.length ≤ 100000) (p : ByteArray) (k : Nat) (hk : l.length < k) : ∃ z : Int, cantonref11_Find.f k l p = some z ∧ Rel l z (getO l p) := by
  unfold cantonref11_Find.f
  exact rfind_loop l hl p l [] k rfl hk (by simp)
/-- what lies behind a place that was put is kept -/
theorem rput_done (l : List S) (hl : l.length ≤ 100000) (x : S) : ∀ (post pre out : List S) (k : Nat), l = pre ++ post → 2 * post.length < k → out.length + post.length ≤ 200000 →
    cantonref11_Put.l0 k l out true (pre.length : Int) x.f0 x.f1 x.f2 = some (out ++ post.filter (fun y => decide (y.f0 ≠ x.f0)))
  | post, pre, out, 0, _, h, _ => absurd h (by omega)
  | [], pre, out, k + 1, he, _, _ => by
    rw [List.append_nil] at he
    subst he
    rw [cantonref11_Put.l0, if_neg (by omega), if_pos rfl]; simp
  | y :: r, pre, out, k + 1, he, hk, ho => by
    have hlen : l.length = pre.length + (r.length + 1) := by rw [he]; simp
    have hy : rd l (pre.length : Int) = y := by rw [he]; exact rd_mid pre r y
    have hw : wrap64 ((pre.length : Int) + 1) = (((pre ++ [y]).length : Nat) : Int) := by rw [w64 (by omega) (by omega)]; simp
    simp only [List.length_cons] at hk ho
    obtain ⟨k, rfl⟩ : ∃ m, k = m + 1 := ⟨k - 1, by omega⟩
    have ih := fun out h => rput_done l hl x r (pre ++ [y]) out k (by rw [he]; simp) (by omega) h
    rw [cantonref11_Put.l0, if_pos (by omega), if_pos rfl, cantonref11_Put.j1, if_neg (by simp), if_pos (by omega), if_pos (by omega)]
    simp only [show rd_T45 l (pre.length : Int) = y from hy, hw]
    rw [List.filter_cons]
    by_cases e : y.f0 = x.f0
    · rw [if_pos (by rw [e]), if_neg (by simp [e])]
      exact ih out (by omega)
    · rw [if_neg (fun h => e (by rw [toL, toL] at h; exact L_inj h)), if_pos (by omega), if_pos (by simp [e])]
      have := ih (out ++ [y]) (by simp; omega)
      rw [List.append_assoc] at this
      exact this
theorem rput_loop (l : List S) (hl : l.length ≤ 100000) (x : S) : ∀ (post pre out : List S) (k : Nat), l = pre ++ post → post.Pairwise Less → 2 * post.length + 2 < k → out.length + post.length ≤ 100000 →
    cantonref11_Put.l0 k l out false (pre.length : Int) x.f0 x.f1 x.f2 = some (out ++ putL x post)
  | post, pre, out, 0, _, _, h, _ => absurd h (by omega)
  | [], pre, out, k + 1, he, _, _, ho => by
    rw [List.append_nil] at he
    subst he
    simp at ho
    rw [cantonref11_Put.l0, if_neg (by omega), if_neg (by simp), if_pos (by omega)]; rfl
  | y :: r, pre, out, k + 1, he, hu, hk, ho => by
    have hlen : l.length = pre.length + (r.length + 1) := by rw [he]; simp
    have hy : rd l (pre.length : Int) = y := by rw [he]; exact rd_mid pre r y
    have hw : wrap64 ((pre.length : Int) + 1) = (((pre ++ [y]).length : Nat) : Int) := by rw [w64 (by omega) (by omega)]; simp
    simp only [List.length_cons] at hk ho
    obtain ⟨k, rfl⟩ : ∃ m, k = m + 1 := ⟨k - 1, by omega⟩
    have hu2 := List.pairwise_cons.1 hu
    rw [cantonref11_Put.l0, if_pos (by omega), if_neg (by simp), if_pos (by omega)]
    simp only [show rd_T45 l (pre.length : Int) = y from hy]
    show cantonref11_Put.j1 (k + 1) l out false (pre.length : Int) (!lessB y.f0 x.f0) x.f0 x.f1 x.f2 = _
    rw [cantonref11_Put.j1, putL]
    by_cases c : lessB y.f0 x.f0 = true
    · rw [if_neg (by rw [c]; simp), if_pos (by omega), if_pos (by omega)]
      simp only [show rd_T45 l (pre.length : Int) = y from hy, hw]
      rw [if_neg (fun h => lessB_ne c (by rw [toL, toL] at h; exact L_inj h)), if_pos (by omega), if_pos c]
      have := rput_loop l hl x r (pre ++ [y]) (out ++ [y]) k (by rw [he]; simp) hu2.2 (by omega) (by simp; omega)
      rw [List.append_assoc] at this
      exact this
    · have c' : lessB y.f0 x.f0 = false := by simpa using c
      rw [if_pos (by rw [c']; rfl), if_pos (by omega), Option.bind_some, if_pos (by omega), if_pos (by omega), if_neg c]
      simp only [show rd_T45 l (pre.length : Int) = y from hy, hw]
      have hf : r.filter (fun z => decide (z.f0 ≠ x.f0)) = r := by
        rw [List.filter_eq_self]
        intro z hz
        have h1 := hu2.1 z hz
        unfold Less at h1
        refine decide_eq_true (fun e => ?_)
        rw [e, c'] at h1; cases h1
      by_cases e : y.f0 = x.f0
      · rw [if_pos (by rw [e]), if_pos e]
        have := rput_done l hl x r (pre ++ [y]) (out ++ [x]) k (by rw [he]; simp) (by omega) (by simp; omega)
        rw [hf, List.append_assoc] at this
        exact this
      · rw [if_neg (fun h => e (by rw [toL, toL] at h; exact L_inj h)), if_neg e, if_pos (by simp; omega)]
        have := rput_done l hl x r (pre ++ [y]) (out ++ [x] ++ [y]) k (by rw [he]; simp) (by omega) (by simp; omega)
        rw [hf] at this
        refine this.trans ?_
        congr 1
        simp
theorem rput_is {l : List S} (h : l.Pairwise Less) (hl : l.length ≤ 50000) (p : ByteArray) (e s : Int) (k : Nat) (hk : 2 * l.length + 2 < k) : cantonref11_Put.f k l p e s = some (putL ⟨p, e, s⟩ l) := by
  unfold cantonref11_Put.f
  exact rput_loop l (by omega) ⟨p, e, s⟩ l [] [] k rfl h hk (by simp; omega)
theorem ref_freeze (l : List S) (hs : ∀ x ∈ l, x.f0.size ≤ 10000) (hl : l.length ≤ 20000) (p : ByteArray) (hp : p.size ≤ 10000) (k : Nat) (hk : 60000 ≤ k) : cantonref11_Freeze.f k l p = some (frzR l p) := by
  unfold cantonref11_Freeze.f frzR
  obtain ⟨y, hy, hf⟩ := ref_of l hs p hp k hk
  rw [hf, Option.bind_some]
  rcases hy with ⟨rfl, ho⟩ | ⟨a, rfl, ha, ho⟩
  · rw [if_pos (show (-1 : Int) < 0 by decide), ho]
  · have hR := (ofR_right ho).1
    have hfew := hR.few
    rw [if_neg (show ¬ (a : Int) < 0 by omega), if_pos (show 0 ≤ (a : Int) by omega), if_pos (show (a : Int) < (l.length : Int) by omega), ho]
    show (if (rd l (a : Int)).f2 = 1 then _ else _) = some (if (rd l (a : Int)).f2 = 1 then putR l ⟨p, (rd l (a : Int)).f1, 2⟩ else _)
    by_cases c : (rd l (a : Int)).f2 = 1
    · rw [if_pos c, if_pos c]
      obtain ⟨z, hz, hzr⟩ := rfind_is l (by omega) p k (by omega)
      rw [hz, Option.bind_some, rput_is hR.up (by omega) p _ 2 k (by omega), Option.bind_some]
      unfold putR
      rcases hzr with ⟨rfl, hg⟩ | ⟨b, rfl, hb, hg⟩
      · rw [if_pos (show (-1 : Int) < 0 by decide), show getO l (⟨p, (rd l (a : Int)).f1, 2⟩ : S).f0 = none from hg]
        by_cases c2 : l.length = 32
        · rw [if_pos (by omega), if_pos ⟨rfl, c2⟩]
        · rw [if_neg (by omega), if_neg (fun h => c2 h.2)]
      · rw [if_neg (show ¬ (b : Int) < 0 by omega), show getO l (⟨p, (rd l (a : Int)).f1, 2⟩ : S).f0 = some (rd l (b : Int)) from hg]
        rfl
    · rw [if_neg c, if_neg c]
theorem ref_install (l : List S) (hs : ∀ x ∈ l, x.f0.size ≤ 10000) (hl : l.length ≤ 20000) (p : ByteArray) (hp : p.size ≤ 10000) (k : Nat) (hk : 60000 ≤ k) (e : Int) : cantonref11_Install.f k l p e = some (insR l p e) := by
  unfold cantonref11_Install.f insR
  obtain ⟨z, hz, hzr⟩ := rfind_is l (by omega) p k (by omega)
  rw [hz, Option.bind_some, ref_right_l l hs k hk, Option.bind_some, ref_right_is p hp k (by omega), Option.bind_some]
  by_cases c1 : RightB l = true
  · have hR := (right_iff l).1 c1
    have hfew := hR.few
    rw [if_pos c1]
    by_cases c2 : isP p = true
    · rw [if_pos c2]
      by_cases c3 : e < 0
      · rw [if_pos c3, if_neg (fun h : RightB l = true ∧ isP p = true ∧ 0 ≤ e ∧ e ≤ 281474976710656 => absurd h.2.2.1 (by omega))]
      · rw [if_neg c3]
        by_cases c4 : e > 281474976710656
        · rw [if_pos c4, if_neg (fun h : RightB l = true ∧ isP p = true ∧ 0 ≤ e ∧ e ≤ 281474976710656 => absurd h.2.2.2 (by omega))]
        · rw [if_neg c4, if_pos (show RightB l = true ∧ isP p = true ∧ 0 ≤ e ∧ e ≤ 281474976710656 from ⟨c1, c2, by omega, by omega⟩), rput_is hR.up (by omega) p e 1 k (by omega), Option.bind_some]
          rcases hzr with ⟨rfl, hg⟩ | ⟨b, rfl, hb, hg⟩
          · rw [if_neg (show ¬ ((-1 : Int) ≥ 0) by decide), if_pos (show (-1 : Int) < 0 by decide), hg]
            show (if (l.length : Int) ≥ 32 then _ else _) = some (putR l ⟨p, e, 1⟩)
            unfold putR
            rw [show getO l (⟨p, e, 1⟩ : S).f0 = none from hg]
            by_cases c5 : l.length = 32
            · rw [if_pos (by omega), if_pos ⟨rfl, c5⟩]
            · rw [if_neg (by omega), if_neg (fun h => c5 h.2)]
          · rw [if_pos (show (b : Int) ≥ 0 by omega), if_pos (show 0 ≤ (b : Int) by omega), if_pos (show (b : Int) < (l.length : Int) by omega), hg]
            show (if (rd l (b : Int)).f1 ≥ e then _ else _) = some (if (rd l (b : Int)).f1 ≥ e then _ else putR l ⟨p, e, 1⟩)
            by_cases c5 : (rd l (b : Int)).f1 ≥ e
            · rw [if_pos c5, if_pos c5]
            · rw [if_neg c5, if_neg c5, if_neg (show ¬ (b : Int) < 0 by omega)]
              unfold putR
              rw [show getO l (⟨p, e, 1⟩ : S).f0 = some (rd l (b : Int)) from hg]
              rfl
    · rw [if_neg c2, if_neg (fun h => c2 h.2.1)]
  · rw [if_neg c1, if_neg (fun h => c1 h.1)]
theorem ref_drop (l : List S) (hs : ∀ x ∈ l, x.f0.size ≤ 10000) (hl : l.length ≤ 20000) (p : ByteArray) (hp : p.size ≤ 10000) (k : Nat) (hk : 60000 ≤ k) (e : Int) : cantonref11_Drop.f k l p e = some (drpR l p e) := by
  unfold cantonref11_Drop.f drpR
  obtain ⟨z, hz, hzr⟩ := rfind_is l (by omega) p k (by omega)
  rw [hz, Option.bind_some, ref_right_l l hs k hk, Option.bind_some]
  by_cases c1 : RightB l = true
  · have hR := (right_iff l).1 c1
    have hfew := hR.few
    rw [if_pos c1, if_pos c1, rput_is hR.up (by omega) p e 3 k (by omega), Option.bind_some]
    rcases hzr with ⟨rfl, hg⟩ | ⟨b, rfl, hb, hg⟩
    · rw [if_pos (show (-1 : Int) < 0 by decide), hg]
    · rw [if_neg (show ¬ (b : Int) < 0 by omega), if_pos (show 0 ≤ (b : Int) by omega), if_pos (show (b : Int) < (l.length : Int) by omega), hg]
      show (if (rd l (b : Int)).f2 = 2 then (if (rd l (b : Int)).f1 = e then _ else _) else _) = some (if (rd l (b : Int)).f2 = 2 ∧ (rd l (b : Int)).f1 = e then putR l ⟨p, e, 3⟩ else _)
      by_cases c5 : (rd l (b : Int)).f2 = 2
      · rw [if_pos c5]
        by_cases c6 : (rd l (b : Int)).f1 = e
        · rw [if_pos c6, if_pos ⟨c5, c6⟩]
          unfold putR
          rw [show getO l (⟨p, e, 3⟩ : S).f0 = some (rd l (b : Int)) from hg]
          rfl
        · rw [if_neg c6, if_neg (fun h => c6 h.2)]
      · rw [if_neg c5, if_neg (fun h => c5 h.1)]
  · rw [if_neg c1, if_neg c1]
theorem ref_state (l : List S) (hs : ∀ x ∈ l, x.f0.size ≤ 10000) (hl : l.length ≤ 20000) (p : ByteArray) (hp : p.size ≤ 10000) (k : Nat) (hk : 60000 ≤ k) : cantonref11_State.f k l p = some (staR l p) := by
  unfold cantonref11_State.f staR
  obtain ⟨y, hy, hf⟩ := ref_of l hs p hp k hk
  rw [hf, Option.bind_some]
  rcases hy with ⟨rfl, ho⟩ | ⟨a, rfl, ha, ho⟩
  · rw [if_pos (by omega), ho]
  · rw [if_neg (by omega), if_pos (by omega), if_pos (by omega), ho]
theorem same_loop (l : List S) (hl : l.length ≤ 1000000) : ∀ (j k i : Nat), i + j = l.length → j < k → cantonref11_Same.l0 k l l (i : Int) = some true
  | j, 0, _, _, h => absurd h (by omega)
  | 0, k + 1, i, hi, _ => by rw [cantonref11_Same.l0, if_neg (by omega)]
  | j + 1, k + 1, i, hi, hk => by
    have hw : wrap64 ((i : Int) + 1) = ((i + 1 : Nat) : Int) := by rw [w64 (by omega) (by omega)]; omega
    rw [cantonref11_Same.l0, if_pos (by omega), if_pos (by omega), if_pos (by omega), if_neg (by simp), hw]
    exact same_loop l hl j k (i + 1) (by omega) (by omega)
theorem same_self (l : List S) (hl : l.length ≤ 1000000) (k : Nat) (hk : l.length < k) : cantonref11_Same.f k l l = some true := by
  unfold cantonref11_Same.f
  rw [if_pos rfl]
  exact same_loop l hl l.length k 0 (by omega) hk
end Go.Proofs.Ytinjajpnbbknnaa.Rng
