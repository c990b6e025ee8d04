/- Ranges: what Freeze, Install, Drop and State answer (the program's), and what becomes of a directory's range. -/
import Derived.Test.YtinjajpnbbknnaaRngA
import Derived.Test.YtinjajpnbbknnaaQx8
namespace Go.Proofs.Ytinjajpnbbknnaa.Rng
open Go Go.RowKit Go.Proofs.Ytinjajpnbbknnaa.Rune Go.Proofs.Ytinjajpnbbknnaa.Split Go.Proofs.Ytinjajpnbbknnaa.PathT Go.Proofs.Ytinjajpnbbknnaa.PathF Go.Proofs.Ytinjajpnbbknnaa.Q Go.Proofs.Ytinjajpnbbknnaa.FRange Go.Proofs.Ytinjajpnbbknnaa.RPut Go.Proofs.YtinjajpnbbknnaaW.PrintWords Go.Proofs.YtinjajpnbbknnaaW.PrintLast Go.Proofs.YtinjajpnbbknnaaW.PrintMore

theorem great_loop (l : List S) (hl : l.length ≤ 9223372036854775000) (hs : ∀ x ∈ l, x.f0.size ≤ 9223372036854775807) : ∀ (post pre : List S) (k : Nat) (n : Nat), l = pre ++ post → post.length < k → n ≤ 9223372036854770000 →
    ∃ b, cantonlaw11_Great.l0 k l (n : Int) (pre.length : Int) = some b ∧ (b = false → n < 3000 ∧ ∀ x ∈ post, x.f0.size < 3000)
  | post, pre, 0, n, _, h, _ => absurd h (by omega)
  | [], pre, k + 1, n, he, _, hn => by
    rw [List.append_nil] at he
    subst he
    rw [cantonlaw11_Great.l0, if_neg (by omega)]
    refine ⟨_, rfl, fun h => ⟨?_, fun x hx => by simp at hx⟩⟩
    simp at h
    omega
  | x :: r, pre, k + 1, n, he, hk, hn => by
    have hlen : l.length = pre.length + (r.length + 1) := by rw [he]; simp
    have hx : rd l (pre.length : Int) = x := by rw [he]; exact rd_mid pre r x
    rw [cantonlaw11_Great.l0, if_pos (by omega)]
    by_cases h3 : (n : Int) < 3000
    · rw [if_pos h3, if_pos (by omega), show rd_T45 l (pre.length : Int) = x from hx]
      have hw : wrap64 ((pre.length : Int) + 1) = ((pre.length + 1 : Nat) : Int) := by rw [w64 (by omega) (by omega)]; omega
      obtain ⟨m, hm, hm2, hm3⟩ : ∃ m : Nat, wrap64 ((n : Int) + mn (x.f0.size : Int) 3000) = (m : Int) ∧ n + min x.f0.size 3000 = m ∧ m ≤ 6000 := by
        refine ⟨n + min x.f0.size 3000, ?_, rfl, by omega⟩
        rw [show mn (x.f0.size : Int) 3000 = ((min x.f0.size 3000 : Nat) : Int) by unfold mn; omega, w64 (by omega) (by omega)]
        omega
      rw [hm, hw]
      have ih := great_loop l hl hs r (pre ++ [x]) k m (by rw [he]; simp) (by simp at hk; omega) (by omega)
      rw [List.length_append, List.length_singleton] at ih
      obtain ⟨b, h4, h5⟩ := ih
      refine ⟨b, h4, fun hb => ?_⟩
      obtain ⟨h6, h7⟩ := h5 hb
      refine ⟨by omega, fun y hy => ?_⟩
      rcases List.mem_cons.1 hy with rfl | hy
      · omega
      · exact h7 y hy
    · rw [if_neg h3]
      refine ⟨_, rfl, fun h => ?_⟩
      simp at h
      omega
theorem great_is (l : List S) (hl : l.length ≤ 9223372036854770000) (hs : ∀ x ∈ l, x.f0.size ≤ 9223372036854775807) (k : Nat) (hk : l.length < k) :
    ∃ b, cantonlaw11_Great.f k l = some b ∧ (b = false → l.length < 3000 ∧ ∀ x ∈ l, x.f0.size < 3000) := by
  unfold cantonlaw11_Great.f
  obtain ⟨b, h1, h2⟩ := great_loop l (by omega) hs l [] k l.length rfl hk hl
  exact ⟨b, h1, h2⟩
theorem head_is (k : Nat) (hk : 50 ≤ k) : cantonlaw11_head.f k = some true := by
  obtain ⟨m, rfl⟩ : ∃ m, k = 50 + m := ⟨k - 50, by omega⟩
  exact cantonlaw11_head.mono_le 50 m true cantonlaw11_head.at50

/-! The range of a directory, as an element. -/
structure OfM (l : List S) (d : ByteArray) (y : S) : Prop where
  mem : y ∈ l
  isin : inP d y.f0 = true
  most : ∀ z ∈ l, inP d z.f0 = true → z.f0.size ≤ y.f0.size
/-- behind a put that is done -/
structure Put (l : List S) (x : S) (m : List S) : Prop where
  right : RightM m
  long : l.length ≤ m.length ∧ m.length ≤ l.length + 1
  get : getO m x.f0 = some x
  at_ : ∀ d, inP d x.f0 = true → (∀ y ∈ l, inP d y.f0 = true → y.f0.size ≤ x.f0.size) → ofO m d = some x
  off : ∀ d, ¬ (inP d x.f0 = true ∧ ∀ y ∈ l, inP d y.f0 = true → y.f0.size ≤ x.f0.size) → ofO m d = ofO l d
theorem ofR_of {l : List S} (hR : RightM l) (d : ByteArray) : ofR l d = ofO l d := by
  unfold ofR
  rw [if_pos ((right_iff l).2 hR)]
/-- a put at p has the range of p be that -/
theorem Put.own {l m : List S} {x : S} (h : Put l x m) (hp : isP x.f0 = true) : ofR m x.f0 = some x := by
  rw [ofR_of h.right]
  refine h.at_ x.f0 (by rw [in_self]; exact hp) (fun y _ hy => in_size hy)
end Go.Proofs.Ytinjajpnbbknnaa.Rng
