/- OwnedMoves, without memory: of two that keep ranges what is frozen at one, installed at the other with the next epoch, and dropped, is kept by just that one. -/
import Derived.Test.YtinjajpnbbknnaaRng1
import Derived.Test.YtinjajpnbbknnaaPathR
import Derived.Test.YtinjajpnbbknnaaQx23
namespace Go.Proofs.Ytinjajpnbbknnaa.Pure
open Go Go.RowKit Go.Proofs.Ytinjajpnbbknnaa.Q Go.Proofs.Ytinjajpnbbknnaa.PathF Go.Proofs.Ytinjajpnbbknnaa.Rng Go.Proofs.YtinjajpnbbknnaaW.PrintWords Go.Proofs.YtinjajpnbbknnaaW.PrintLast

def rows (i : Nat) (F O : List S) : List (List S) := if i % 2 = 0 then [F, O] else [O, F]
structure Inv (p : ByteArray) (e : Int) (i : Nat) (F O : List S) : Prop where
  rF : RightM F
  rO : RightM O
  lF : F.length ≤ i + 1
  lO : O.length ≤ i + 1
  own : ∃ s, ofO F p = some s ∧ s.f2 = 1 ∧ s.f1 = e
  old : ∀ s, getO O p = some s → s.f1 ≤ e
  gone : staR O p = 3
  num : e = i + 1
theorem sta_own {F : List S} (h : RightM F) {p : ByteArray} {s : S} (ho : ofO F p = some s) : staR F p = s.f2 := by
  unfold staR
  rw [ofR_of h, ho]
/-- one round, of lists alone -/
theorem round {p : ByteArray} {e : Int} {i : Nat} {F O : List S} (h : Inv p e i F O) (hp : isP p = true) (hi : i < 20) :
    ∃ a b c, frzR F p = (a, true) ∧ insR O p (e + 1) = (b, true) ∧ staR a p = 2 ∧ staR b p = 1 ∧ drpR a p e = (c, true) ∧ staR c p = 3 ∧ a.length ≤ 100 ∧ Inv p (e + 1) (i + 1) b c := by
  obtain ⟨s, ho, h2, h1⟩ := h.own
  have hn := h.num
  have hlF := h.lF
  have hlO := h.lO
  have hok2 : okE ⟨p, e, 2⟩ = true := okR hp (by omega) (by omega) (by decide)
  have hok1 : okE ⟨p, e + 1, 1⟩ = true := okR hp (by omega) (by omega) (by decide)
  have hok3 : okE ⟨p, e, 3⟩ = true := okR hp (by omega) (by omega) (by decide)
  obtain ⟨hpa, hA⟩ : putR F ⟨p, e, 2⟩ = (putL ⟨p, e, 2⟩ F, true) ∧ Put F ⟨p, e, 2⟩ (putL ⟨p, e, 2⟩ F) := by
    rcases putR_cases h.rF hok2 with ⟨_, _, h3⟩ | h3
    · omega
    · exact h3
  obtain ⟨hpb, hB⟩ : putR O ⟨p, e + 1, 1⟩ = (putL ⟨p, e + 1, 1⟩ O, true) ∧ Put O ⟨p, e + 1, 1⟩ (putL ⟨p, e + 1, 1⟩ O) := by
    rcases putR_cases h.rO hok1 with ⟨_, _, h3⟩ | h3
    · omega
    · exact h3
  obtain ⟨a, ha⟩ : ∃ a, putL ⟨p, e, 2⟩ F = a := ⟨_, rfl⟩
  obtain ⟨b, hb⟩ : ∃ b, putL ⟨p, e + 1, 1⟩ O = b := ⟨_, rfl⟩
  rw [ha] at hpa hA
  rw [hb] at hpb hB
  have hga := hA.get
  obtain ⟨hpc, hC⟩ : putR a ⟨p, e, 3⟩ = (putL ⟨p, e, 3⟩ a, true) ∧ Put a ⟨p, e, 3⟩ (putL ⟨p, e, 3⟩ a) := by
    rcases putR_cases hA.right hok3 with ⟨_, h3, _⟩ | h3
    · rw [hga] at h3; cases h3
    · exact h3
  obtain ⟨c, hc⟩ : ∃ c, putL ⟨p, e, 3⟩ a = c := ⟨_, rfl⟩
  rw [hc] at hpc hC
  have hlc : c.length = a.length := by
    have := put_len ⟨p, e, 3⟩ hA.right.up
    rw [hc] at this
    rw [this]
    have hgn : (getO a p).isNone = false := by rw [hga]; rfl
    rw [if_neg (by show ¬ (getO a p).isNone = true; rw [hgn]; simp)]
  have hla := hA.long
  have hlb := hB.long
  have hoa := hA.own hp
  have hob := hB.own hp
  have hoc := hC.own hp
  refine ⟨a, b, c, ?_, ?_, ?_, ?_, ?_, ?_, by omega, ?_⟩
  · unfold frzR
    rw [ofR_of h.rF, ho]
    dsimp only
    rw [if_pos h2, h1, hpa]
  · unfold insR
    rw [if_pos ⟨(right_iff O).2 h.rO, hp, by omega, by omega⟩]
    cases hg : getO O p with
    | none => exact hpb
    | some t =>
      have := h.old t hg
      dsimp only
      rw [if_neg (by omega), hpb]
  · unfold staR; rw [hoa]
  · unfold staR; rw [hob]
  · unfold drpR
    rw [if_pos ((right_iff a).2 hA.right), hga]
    dsimp only
    rw [if_pos ⟨rfl, rfl⟩, hpc]
  · unfold staR; rw [hoc]
  · rw [ofR_of hB.right] at hob
    refine ⟨hB.right, hC.right, by omega, by omega, ⟨_, hob, rfl, rfl⟩, fun t ht => ?_, ?_, by omega⟩
    · have := hC.get
      rw [this] at ht
      cases ht
      show e ≤ e + 1
      omega
    · unfold staR; rw [hoc]
theorem rows_step (i : Nat) (F O b c : List S) : ((rows i F O).set ((i : Int) % 2).toNat c).set (1 - (i : Int) % 2).toNat b = rows (i + 1) b c ∧ rd_L5 (rows i F O) ((i : Int) % 2) = F ∧ rd_L5 (rows i F O) (1 - (i : Int) % 2) = O ∧ (rows i F O).length = 2 := by
  unfold rows
  rcases Nat.mod_two_eq_zero_or_one i with h | h
  · have e1 : (i : Int) % 2 = 0 := by omega
    rw [e1, if_pos h, if_neg (by omega)]
    exact ⟨rfl, rfl, rfl, rfl⟩
  · have e1 : (i : Int) % 2 = 1 := by omega
    rw [e1, if_neg (by omega), if_pos (by omega)]
    exact ⟨rfl, rfl, rfl, rfl⟩
theorem moves_loop (p : ByteArray) (hp : isP p = true) (x1 : Int) (n : Nat) (hn : wrap64 (Int.tmod x1 20) = (n : Int)) (hn20 : n < 20) : ∀ (j i k : Nat) (e : Int) (F O : List S), i + j = n → 2 * j + 1000 < k → Inv p e i F O →
    cantonlaw11_OwnedMoves.l0 k p x1 true (rows i F O) e (i : Int) = some true
  | j, i, 0, e, F, O, _, h, _ => absurd h (by omega)
  | 0, i, k + 1, e, F, O, hi, hk, hI => by
    obtain rfl : i = n := by omega
    have hlF := hI.lF
    have hlO := hI.lO
    obtain ⟨s, ho, h2, h1⟩ := hI.own
    have e0 : Int.tmod (i : Int) 2 = (i : Int) % 2 := Int.tmod_eq_emod_of_nonneg (by omega)
    rw [cantonlaw11_OwnedMoves.l0, hn, if_neg (by omega), if_pos rfl, (rows_step i F O F O).2.2.2, if_pos (by decide), e0]
    unfold rows
    rcases Nat.mod_two_eq_zero_or_one i with h | h
    · have e1 : (i : Int) % 2 = 0 := by omega
      rw [e1, if_pos h]
      show (owned_State.f k F p).bind _ = _
      rw [state_is F (by omega) p k (by omega), Option.bind_some, sta_own hI.rF ho, h2]
      rfl
    · have e1 : (i : Int) % 2 = 1 := by omega
      rw [e1, if_neg (by omega)]
      show (owned_State.f k O p).bind _ = _
      rw [state_is O (by omega) p k (by omega), Option.bind_some, hI.gone]
      rfl
  | j + 1, i, k + 1, e, F, O, hi, hk, hI => by
    obtain ⟨k, rfl⟩ : ∃ m, k = m + 1 := ⟨k - 1, by omega⟩
    obtain ⟨a, b, c, hfr, hin, hsa, hsb, hdr, hsc, hla, hI'⟩ := round hI hp (by omega)
    have hlF := hI.lF
    have hlO := hI.lO
    have hlb := hI'.lF
    have hlc := hI'.lO
    have hnum := hI.num
    have e0 : Int.tmod (i : Int) 2 = (i : Int) % 2 := Int.tmod_eq_emod_of_nonneg (by omega)
    obtain ⟨r1, r2, r3, r4⟩ := rows_step i F O b c
    have hb0 : 0 ≤ (i : Int) % 2 := by omega
    have hb1 : (i : Int) % 2 < 2 := by omega
    have next := moves_loop p hp x1 n hn hn20 j (i + 1) k (e + 1) b c (by omega) (by omega) hI'
    have hlt : (i : Int) < (n : Int) := by omega
    have r4' : ((rows i F O).length : Int) = 2 := by rw [r4]; rfl
    have ha0 : 0 ≤ 1 - (i : Int) % 2 := by omega
    have ha1 : 1 - (i : Int) % 2 < 2 := by omega
    have f1 := freeze_is F (by omega) p (k + 1) (by omega)
    have f2 := install_is O (by omega) p (e + 1) (k + 1) (by omega)
    have f3 := state_is a (by omega) p (k + 1) (by omega)
    have f4 := state_is b (by omega) p (k + 1) (by omega)
    have f5 := drop_is a (by omega) p e k (by omega)
    have f6 := state_is c (by omega) p k (by omega)
    have hw1 : wrap64 (1 - (i : Int) % 2) = 1 - (i : Int) % 2 := w64 (by omega) (by omega)
    have hw2 : wrap64 (e + 1) = e + 1 := w64 (by omega) (by omega)
    have hw3 : wrap64 ((i : Int) + 1) = ((i + 1 : Nat) : Int) := by rw [w64 (by omega) (by omega)]; omega
    rw [hfr] at f1
    rw [hin] at f2
    rw [hsa] at f3
    rw [hsb] at f4
    rw [hdr] at f5
    rw [hsc] at f6
    rw [cantonlaw11_OwnedMoves.l0, hn, if_pos hlt, e0, r4', if_pos hb0, if_pos hb1, r2, f1, Option.bind_some, hw1, if_pos ha0, if_pos ha1, r3, hw2, f2, Option.bind_some, if_pos rfl, if_pos rfl]
    show (owned_State.f (k + 1) a p).bind _ = _
    rw [f3, Option.bind_some, if_pos rfl]
    show (owned_State.f (k + 1) b p).bind _ = _
    rw [f4, Option.bind_some]
    show cantonlaw11_OwnedMoves.j2 (k + 1) p x1 true (rows i F O) e (i : Int) ((i : Int) % 2) a b false = _
    rw [cantonlaw11_OwnedMoves.j2, if_neg Bool.false_ne_true, f5, Option.bind_some, if_pos rfl]
    show (owned_State.f k c p).bind _ = _
    rw [f6, Option.bind_some, if_pos rfl, r4', if_pos hb0, if_pos hb1, hw1, if_pos ha0, if_pos ha1, hw2, hw3, r1]
    exact next
theorem OwnedMoves : cantonlaw11_OwnedMoves.Pure := by
  intro p x1 hps hx1
  refine ⟨200000 + 1 + 1, ?_⟩
  have hx : 0 ≤ x1 ∧ x1 ≤ 255 := by
    have h : IntKind.u8.min ≤ x1 ∧ x1 ≤ IntKind.u8.max := by simpa [Lit.wf] using hx1
    exact h
  unfold cantonlaw11_OwnedMoves.f
  rw [head_is _ (by omega), Option.bind_some]
  have stop : cantonlaw11_OwnedMoves.j0 (200000 + 1 + 1) p x1 true true = some true := by rw [cantonlaw11_OwnedMoves.j0, if_pos rfl]
  by_cases c1 : (p.size : Int) > 1000
  · rw [if_pos c1, stop]
  · rw [if_neg c1, ref_right_is p (by omega) _ (by omega), Option.bind_some]
    cases hp : isP p with
    | false => exact stop
    | true =>
      rw [Bool.not_true, cantonlaw11_OwnedMoves.j0, if_neg (by simp)]
      have hn : wrap64 (Int.tmod x1 20) = ((x1.toNat % 20 : Nat) : Int) := by
        rw [Int.tmod_eq_emod_of_nonneg (by omega), w64 (by omega) (by omega)]; omega
      have hroot : isP ⟨#[47]⟩ = true := (isP_iff _).2 ⟨[], ⟨by simp, by simp⟩, rfl⟩
      have okr : ∀ v : Int, 1 ≤ v → v ≤ 3 → RightM [(⟨⟨#[47]⟩, 1, v⟩ : S)] := fun v h1 h2 => ⟨fun x hx => by
        rw [List.mem_singleton] at hx
        rw [hx]
        exact okR hroot (by decide) (by decide) ⟨h1, h2⟩, by simp, by simp⟩
      have ofr : ∀ v : Int, ofO [(⟨⟨#[47]⟩, 1, v⟩ : S)] p = some ⟨⟨#[47]⟩, 1, v⟩ := fun v => by
        unfold ofO
        rw [List.foldl_cons, List.foldl_nil]
        unfold stepO
        rw [in_root, hp, if_pos rfl]
      exact moves_loop p hp x1 (x1.toNat % 20) hn (Nat.mod_lt _ (by decide)) (x1.toNat % 20) 0 (200000 + 1) 1 [⟨⟨#[47]⟩, 1, 1⟩] [⟨⟨#[47]⟩, 1, 3⟩] (by omega) (by omega)
        ⟨okr 1 (by decide) (by decide), okr 3 (by decide) (by decide), by simp, by simp, ⟨_, ofr 1, rfl, rfl⟩, fun s hs => by
          have := (getO_some hs).1
          rw [List.mem_singleton] at this
          rw [this]
          decide, by rw [sta_own (okr 3 (by decide) (by decide)) (ofr 3)], by decide⟩
end Go.Proofs.Ytinjajpnbbknnaa.Pure
