/- Stores: what is not too great (cantonlaw07.Great). -/
import Derived.Test.YtinjajpnbbknnaaStr1
import Derived.Test.YtinjajpnbbknnaaQx15
import Derived.Test.YtinjajpnbbknnaaQx14b
namespace Go.Proofs.Ytinjajpnbbknnaa.Str
open Go Go.RowKit Go.Proofs.Ytinjajpnbbknnaa.PathF Go.Proofs.Ytinjajpnbbknnaa.Part Go.Proofs.Ytinjajpnbbknnaa.Q Go.Proofs.YtinjajpnbbknnaaW.PrintWords Go.Proofs.YtinjajpnbbknnaaW.PrintLast Go.Proofs.YtinjajpnbbknnaaW.PrintMore

theorem great6_loop (l : List N) (hl : l.length ≤ 100000000000000) (hs : ∀ x ∈ l, x.f0.size ≤ 140737488351232 ∧ x.f1.size ≤ 140737488351232) : ∀ (post pre : List N) (k : Nat) (n : Nat), l = pre ++ post → post.length < k → n ≤ 1000000000000000 →
    ∃ b, cantonlaw06_Great.l0 k l (n : Int) (pre.length : Int) = some b ∧ (b = false → n < 5000 ∧ ∀ x ∈ post, x.f0.size < 5000)
  | post, pre, 0, n, _, h, _ => absurd h (by omega)
  | [], pre, k + 1, n, he, _, hn => by
    rw [List.append_nil] at he
    subst he
    rw [cantonlaw06_Great.l0, if_neg (by omega)]
    refine ⟨_, rfl, fun h => ⟨?_, fun x hx => by simp at hx⟩⟩
    simp at h
    omega
  | x :: r, pre, k + 1, n, he, hk, hn => by
    have hlen : l.length = pre.length + (r.length + 1) := by rw [he]; simp
    have hx : rd_T40 l (pre.length : Int) = x := by rw [he]; exact rdN_mid pre r x
    rw [cantonlaw06_Great.l0, if_pos (by omega)]
    by_cases h3 : (n : Int) < 5000
    · rw [if_pos h3, if_pos (by omega), hx]
      have ih := fun m h => great6_loop l hl hs r (pre ++ [x]) k m (by rw [he]; simp) (by simp at hk; omega) h
      have hw : wrap64 ((pre.length : Int) + 1) = (((pre ++ [x]).length : Nat) : Int) := by rw [w64 (by omega) (by omega)]; simp
      obtain ⟨m, hm, hm2, hm3⟩ : ∃ m : Nat, wrap64 (wrap64 ((n : Int) + mn (x.f0.size : Int) 5000) + mn (x.f1.size : Int) 5000) = (m : Int) ∧ n + min x.f0.size 5000 ≤ m ∧ m ≤ 15000 := by
        refine ⟨n + min x.f0.size 5000 + min x.f1.size 5000, ?_, by omega, by omega⟩
        rw [show mn (x.f0.size : Int) 5000 = ((min x.f0.size 5000 : Nat) : Int) by unfold mn; omega, show mn (x.f1.size : Int) 5000 = ((min x.f1.size 5000 : Nat) : Int) by unfold mn; omega]
        have e1 : wrap64 ((n : Int) + ((min x.f0.size 5000 : Nat) : Int)) = (n : Int) + ((min x.f0.size 5000 : Nat) : Int) := w64 (by omega) (by omega)
        rw [e1, w64 (by omega) (by omega)]
        omega
      rw [hm, hw]
      obtain ⟨b, h4, h5⟩ := ih m (by omega)
      refine ⟨b, h4, fun hb => ?_⟩
      obtain ⟨h6, h7⟩ := h5 hb
      refine ⟨by omega, fun y hy => ?_⟩
      rcases List.mem_cons.1 hy with rfl | hy
      · omega
      · exact h7 y hy
    · rw [if_neg h3]
      refine ⟨_, rfl, fun h => ?_⟩
      simp at h
      omega
theorem great6_is (l : List N) (hl : l.length ≤ 100000000000000) (hs : ∀ x ∈ l, x.f0.size ≤ 140737488351232 ∧ x.f1.size ≤ 140737488351232) (k : Nat) (hk : l.length < k) :
    ∃ b, cantonlaw06_Great.f k l = some b ∧ (b = false → l.length < 2000 ∧ ∀ x ∈ l, x.f0.size < 5000) := by
  unfold cantonlaw06_Great.f
  have hw : wrap64 (3 * (l.length : Int)) = ((3 * l.length : Nat) : Int) := by rw [w64 (by omega) (by omega)]; omega
  rw [hw]
  obtain ⟨b, h1, h2⟩ := great6_loop l hl hs l [] k (3 * l.length) rfl hk (by omega)
  exact ⟨b, h1, fun hb => ⟨by have := (h2 hb).1; omega, (h2 hb).2⟩⟩
theorem great7_loop (n : List N) (l : List T) (hn : n.length ≤ 100000000000000) (hns : ∀ x ∈ n, x.f0.size ≤ 140737488351232 ∧ x.f1.size ≤ 140737488351232) (hl : l.length ≤ 100000000000000) (hs : ∀ x ∈ l, x.f0.size ≤ 140737488351232) : ∀ (post pre : List T) (k : Nat) (m : Nat), l = pre ++ post → post.length + n.length + 1 < k → m ≤ 1000000000000000 →
    ∃ b, cantonlaw07_Great.l0 k (m : Int) (pre.length : Int) n l = some b ∧ (b = false → (m < 3000 ∧ ∀ x ∈ post, x.f0.size < 3000) ∧ n.length < 2000 ∧ ∀ x ∈ n, x.f0.size < 5000)
  | post, pre, 0, m, _, h, _ => absurd h (by omega)
  | [], pre, k + 1, m, he, hk, hm => by
    rw [List.append_nil] at he
    subst he
    simp only [List.length_nil] at hk
    rw [cantonlaw07_Great.l0, if_neg (by omega)]
    by_cases c : (m : Int) ≥ 3000
    · rw [if_pos c]
      exact ⟨_, rfl, fun h => by cases h⟩
    · obtain ⟨b, h1, h2⟩ := great6_is n hn hns k (by omega)
      rw [if_neg c, h1, Option.bind_some]
      exact ⟨_, rfl, fun h => ⟨⟨by omega, fun x hx => by simp at hx⟩, h2 h⟩⟩
  | x :: r, pre, k + 1, m, he, hk, hm => by
    have hlen : l.length = pre.length + (r.length + 1) := by rw [he]; simp
    have hx : rd_T59 l (pre.length : Int) = x := by rw [he]; exact rdT_mid pre r x
    simp only [List.length_cons] at hk
    rw [cantonlaw07_Great.l0, if_pos (by omega)]
    by_cases h3 : (m : Int) < 3000
    · rw [if_pos h3, if_pos (by omega), hx]
      have ih := fun m h => great7_loop n l hn hns hl hs r (pre ++ [x]) k m (by rw [he]; simp) (by omega) h
      have hw : wrap64 ((pre.length : Int) + 1) = (((pre ++ [x]).length : Nat) : Int) := by rw [w64 (by omega) (by omega)]; simp
      obtain ⟨q, hq, hq2, hq3⟩ : ∃ q : Nat, wrap64 ((m : Int) + mn (x.f0.size : Int) 3000) = (q : Int) ∧ m + min x.f0.size 3000 = q ∧ q ≤ 6000 := by
        refine ⟨m + min x.f0.size 3000, ?_, rfl, by omega⟩
        rw [show mn (x.f0.size : Int) 3000 = ((min x.f0.size 3000 : Nat) : Int) by unfold mn; omega, w64 (by omega) (by omega)]
        omega
      rw [hq, hw]
      obtain ⟨b, h4, h5⟩ := ih q (by omega)
      refine ⟨b, h4, fun hb => ?_⟩
      obtain ⟨⟨h6, h7⟩, h8⟩ := h5 hb
      refine ⟨⟨by omega, fun y hy => ?_⟩, h8⟩
      rcases List.mem_cons.1 hy with rfl | hy
      · omega
      · exact h7 y hy
    · rw [if_neg h3, if_pos (by omega)]
      exact ⟨_, rfl, fun h => by cases h⟩
theorem great7_is (n : List N) (l : List T) (hn : n.length ≤ 100000000000000) (hns : ∀ x ∈ n, x.f0.size ≤ 140737488351232 ∧ x.f1.size ≤ 140737488351232) (hl : l.length ≤ 100000000000000) (hs : ∀ x ∈ l, x.f0.size ≤ 140737488351232) (k : Nat) (hk : l.length + n.length + 1 < k) :
    ∃ b, cantonlaw07_Great.f k n l = some b ∧ (b = false → (l.length < 3000 ∧ ∀ x ∈ l, x.f0.size < 3000) ∧ n.length < 2000 ∧ ∀ x ∈ n, x.f0.size < 5000) := by
  unfold cantonlaw07_Great.f
  exact great7_loop n l hn hns hl hs l [] k l.length rfl hk (by omega)
end Go.Proofs.Ytinjajpnbbknnaa.Str
