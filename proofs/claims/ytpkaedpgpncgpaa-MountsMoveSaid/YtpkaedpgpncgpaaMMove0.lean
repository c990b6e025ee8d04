/- MountsMove's one round, of lists alone. -/
import Derived.Test.YtpkaedpgpncgpaaMnt3
import Derived.Test.YtpkaedpgpncgpaaMRef2
namespace Go.Proofs.Ytpkaedpgpncgpaa.Mnt
open Go Go.RowKit Go.Proofs.Ytpkaedpgpncgpaa.Rune Go.Proofs.Ytpkaedpgpncgpaa.Split Go.Proofs.Ytpkaedpgpncgpaa.PathT Go.Proofs.Ytpkaedpgpncgpaa.PathF Go.Proofs.Ytpkaedpgpncgpaa.Q Go.Proofs.Ytpkaedpgpncgpaa.MBegin Go.Proofs.YtpkaedpgpncgpaaW.PrintWords Go.Proofs.YtpkaedpgpncgpaaW.PrintLast Go.Proofs.YtpkaedpgpncgpaaW.PrintMore

theorem find_loop (l : List S) (p : ByteArray) (a : Nat) (ha : a < l.length) (h0 : (rd l (a : Int)).f0 = p) (hn : ∀ j : Nat, j < a → (rd l (j : Int)).f0 ≠ p) (hl : l.length ≤ 100000) : ∀ (j i k : Nat), i + j = a → j < k → cantonref14_Find.l0 k l p (i : Int) = some (a : Int)
  | j, i, 0, _, h => absurd h (by omega)
  | 0, i, k + 1, hi, _ => by
    obtain rfl : i = a := by omega
    rw [cantonref14_Find.l0, if_pos (by omega), if_pos (by omega), if_pos (show (rd_T27 l (i : Int)).f0.toList = p.toList by rw [show (rd_T27 l (i : Int)).f0 = p from h0])]
  | j + 1, i, k + 1, hi, hk => by
    have hw : wrap64 ((i : Int) + 1) = ((i + 1 : Nat) : Int) := by rw [w64 (by omega) (by omega)]; omega
    rw [cantonref14_Find.l0, if_pos (by omega), if_pos (by omega), if_neg (fun e => hn i (by omega) (L_inj (by rw [← toL, ← toL]; exact e))), hw]
    exact find_loop l p a ha h0 hn hl j (i + 1) k (by omega) (by omega)
theorem find_is {l : List S} (hR : RightM l) {y : S} (hy : y ∈ l) (k : Nat) (hk : 100 ≤ k) : ∃ a : Nat, cantonref14_Find.f k l y.f0 = some (a : Int) ∧ a < l.length ∧ rd l (a : Int) = y := by
  obtain ⟨a, ha, rfl⟩ := mem_rd hy
  have hf := hR.few
  refine ⟨a, ?_, ha, rfl⟩
  unfold cantonref14_Find.f
  exact find_loop l _ a ha rfl (fun j hj e => by have := up_inj hR.up (show j < l.length by omega) ha e; omega) (by omega) a 0 k (by omega) (by omega)
theorem find_any (l : List S) (p : ByteArray) (hl : l.length ≤ 100000) : ∀ (j i k : Nat), i + j = l.length → j < k → ∃ a : Int, cantonref14_Find.l0 k l p (i : Int) = some a
  | j, i, 0, _, h => absurd h (by omega)
  | 0, i, k + 1, hi, _ => ⟨-1, by rw [cantonref14_Find.l0, if_neg (by omega)]⟩
  | j + 1, i, k + 1, hi, hk => by
    have hw : wrap64 ((i : Int) + 1) = ((i + 1 : Nat) : Int) := by rw [w64 (by omega) (by omega)]; omega
    rw [cantonref14_Find.l0, if_pos (by omega), if_pos (by omega), hw]
    by_cases c : (rd_T27 l (i : Int)).f0.toList = p.toList
    · exact ⟨_, by rw [if_pos c]⟩
    · rw [if_neg c]
      exact find_any l p hl j (i + 1) k (by omega) (by omega)
/-- what is kept from round to round -/
def InvM (l : List S) (p : ByteArray) (last : Int) : Prop := last = -1 ∨ ∃ y ∈ l, y.f0 = p ∧ y.f2 = last
theorem max_ne {x : Int} : 0 ≤ x → -1 ≤ x := fun h => by omega
/-- the epoch of a Begin that is OK is no less than the one before -/
theorem begin_epoch {l m : List S} {p r2 : ByteArray} {d r3 r4 r5 last : Int} (h : BeginR l p d m r2 r3 r4 r5 0) (hI : InvM l p last) : last ≤ r4 := by
  have M := moved h
  obtain ⟨u, hu⟩ : ∃ u : Int, u = 0 := ⟨0, rfl⟩
  rw [← hu] at h
  cases h with
  | bad h => omega
  | same h ho hm hd =>
    have h1 := own_mem ho
    have h2 := (okE_iff _).1 (h.1.ok _ h1.1)
    rcases hI with rfl | ⟨y, hy, h0, rfl⟩
    · omega
    · rw [uniq h.1.up hy h1.1 (h0.trans h1.2.symm)]; exact Int.le_refl _
  | busy h => omega
  | there h => omega
  | many h => omega
  | new h hb a ha ht hm he =>
    have h2 := (okE_iff _).1 (h.1.ok _ (rd_mem l a ha.lt))
    rcases hI with rfl | ⟨y, hy, h0, rfl⟩
    · omega
    · have h3 := ofM ha
      have h4 := h3.most y hy (by rw [h0, in_self]; exact h.2.1)
      rw [h0] at h4
      have h5 := in_eq h3.isin h4
      rw [uniq h.1.up hy h3.mem (h0.trans h5)]; exact Int.le_refl _
theorem begin_vals {l m : List S} {p r2 : ByteArray} {d r3 r4 r5 : Int} (h : BeginR l p d m r2 r3 r4 r5 0) : Asks l p d ∧ r2 = p ∧ r5 = d ∧ r3 ≠ d ∧ (⟨p, r3, r4, d⟩ : S) ∈ m ∧ movB ⟨p, r3, r4, d⟩ = true ∧ 0 ≤ r4 ∧ r4 ≤ 281474976710656 := by
  have M := moved h
  obtain ⟨u, hu⟩ : ∃ u : Int, u = 0 := ⟨0, rfl⟩
  rw [← hu] at h
  cases h with
  | bad h => omega
  | same h ho hm hd =>
    have h1 := own_mem ho
    have h2 := (okE_iff _).1 (h.1.ok _ h1.1)
    obtain ⟨x, hx⟩ : ∃ x, rd l (at_ p l : Nat) = x := ⟨_, rfl⟩
    rw [hx] at hm hd h1 h2 ⊢
    have hxe : x = ⟨p, x.f1, x.f2, d⟩ := by rw [← h1.2, ← hd]
    refine ⟨h, h1.2, hd, ?_, by rw [← hxe]; exact h1.1, by rw [← hxe]; exact hm, h2.2.2.2⟩
    intro e
    unfold movB at hm
    rw [e, hd] at hm
    simp at hm
  | busy h => omega
  | there h => omega
  | many h => omega
  | new h hb a ha ht hm he =>
    have h2 := (okE_iff _).1 (h.1.ok _ (rd_mem l a ha.lt))
    refine ⟨h, rfl, rfl, ht, (mem_put h.1 rfl _).2 (.inl rfl), ?_, h2.2.2.2⟩
    unfold movB
    exact bne_iff_ne.2 (fun e => ht e.symm)
theorem begin_len {l m : List S} {p r2 : ByteArray} {d r3 r4 r5 e : Int} (h : BeginR l p d m r2 r3 r4 r5 e) : m.length ≤ 32 := by
  cases h with
  | bad h => simp
  | same h => exact h.1.few
  | busy h => exact h.1.few
  | there h => exact h.1.few
  | many h => exact h.1.few
  | new h hb a ha ht hm he => exact (put_right (x := ⟨p, (rd l (a : Int)).f1, (rd l (a : Int)).f2, d⟩) h.1 h.2.1 rfl (ok_new h ha) hm).1.few
/-- a round that comes to no Begin -/
theorem round_no {l m : List S} {p r2 : ByteArray} {d r3 r4 r5 e : Int} (h : BeginR l p d m r2 r3 r4 r5 e) (he : e ≠ 0) : e = 1 ∨ (e ≠ 1 ∧ m = l) := by
  cases h with
  | bad h => exact .inl rfl
  | same h => exact absurd rfl he
  | busy h => exact .inr ⟨by decide, rfl⟩
  | there h => exact .inr ⟨by decide, rfl⟩
  | many h => exact .inr ⟨by decide, rfl⟩
  | new h => exact absurd rfl he
structure Yes (l a : List S) (p : ByteArray) (d x1 x2 last : Int) (g1 c d1 : List S) (g h j : Int) : Prop where
  again : mounts_Begin.f a p d = some (a, p, x1, x2, d, 0)
  grp : x1 ≠ d
  flip1 : mounts_Flip.f a p (wrap64 (x2 + 1)) d = some (g1, g)
  flip2 : mounts_Flip.f a p x2 d = some (c, h)
  flip3 : mounts_Flip.f c p x2 d = some (d1, j)
  lens : a.length ≤ 32 ∧ g1.length ≤ 32 ∧ c.length ≤ 32 ∧ d1.length ≤ 32
  num : 0 ≤ x2 ∧ x2 ≤ 281474976710656
  fine : x2 < 281474976710656 → g = 133 ∧ h = 0 ∧ j = 0 ∧ d1 = c ∧ last ≤ x2 ∧ RightM c ∧ (⟨p, d, x2 + 1, d⟩ : S) ∈ c
theorem flip_len {l m : List S} {p : ByteArray} {ep d e : Int} (h : FlipR l p ep d m e) (hl : l.length ≤ 32) : m.length ≤ 32 := by
  cases h with
  | bad h => simp
  | late h => exact hl
  | again h => exact hl
  | done h x hx h0 hd hm he hp =>
    have hown := own_at h.1.up hx
    rw [h0] at hown
    exact (put_right (x := ⟨p, d, ep + 1, d⟩) h.1 h.2.1 rfl (ok_done h hx he hp) (.inl hown.1)).1.few
theorem round_yes {l a : List S} {p r2 : ByteArray} {d r3 x2 r5 last : Int} (hB : BeginR l p d a r2 r3 x2 r5 0) (hI : InvM l p last) : ∃ g1 c d1 g h j, Yes l a p d r3 x2 last g1 c d1 g h j := by
  have M := moved hB
  obtain ⟨hA, hr2, hr5, hne, hmem, hmov, hn0, hn1⟩ := begin_vals hB
  have hA2 : Asks a p d := ⟨M.right, hA.2⟩
  have hal := M.right.few
  obtain ⟨b, y2, y3, y4, y5, f, hb, hbR⟩ := begin_is a (by omega) p d
  obtain ⟨e1, e2, e3, e4, e5, e6⟩ := begin_own hbR hA2 hmem rfl hmov rfl
  have hb : mounts_Begin.f a p d = some (a, p, r3, x2, d, 0) := by rw [hb, e1, e2, e3, e4, e5, e6]
  clear e1 e2 e3 e4 e5 e6 hbR
  obtain ⟨g1, g, hg, hgR⟩ := flip_is a (by omega) p (wrap64 (x2 + 1)) d
  obtain ⟨c, h, hc, hcR⟩ := flip_is a (by omega) p x2 d
  have hcl := flip_len hcR hal
  obtain ⟨d1, j, hd, hdR⟩ := flip_is c (by omega) p x2 d
  have hw : wrap64 (x2 + 1) = x2 + 1 := w64 (by omega) (by omega)
  have only : ∀ z ∈ a, z.f0 = p → z = ⟨p, r3, x2, d⟩ := fun z hz e => uniq M.right.up hz hmem e
  refine ⟨g1, c, d1, g, h, j, hb, hne, hg, hc, hd, ⟨hal, flip_len hgR hal, hcl, flip_len hdR hcl⟩, ⟨hn0, hn1⟩, fun hlt => ?_⟩
  have h1 : g = 133 := by
    cases hgR with
    | bad h => exact absurd hA2 h
    | late h => rfl
    | again h x hx h0 hd3 hm => rw [only x hx h0, hmov] at hm; cases hm
    | done h x hx h0 hd3 hm he => rw [only x hx h0, hw] at he; simp at he; omega
  have h2 : h = 0 ∧ c = putM a p ⟨p, d, x2 + 1, d⟩ := by
    cases hcR with
    | bad h => exact absurd hA2 h
    | late h hn => exact absurd ⟨rfl, .inl ⟨hmov, rfl, hlt⟩⟩ (hn _ hmem rfl)
    | again h x hx h0 hd3 hm => rw [only x hx h0, hmov] at hm; cases hm
    | done h x hx h0 hd3 hm he => exact ⟨rfl, rfl⟩
  obtain ⟨rfl, rfl⟩ := h2
  have hown := own_at M.right.up hmem
  have hput := put_right (x := ⟨p, d, x2 + 1, d⟩) M.right hA.2.1 rfl (ok_done hA2 hmem rfl hlt) (.inl hown.1)
  have hin : (⟨p, d, x2 + 1, d⟩ : S) ∈ putM a p ⟨p, d, x2 + 1, d⟩ := (mem_put M.right rfl _).2 (.inl rfl)
  have only2 : ∀ z ∈ putM a p ⟨p, d, x2 + 1, d⟩, z.f0 = p → z = ⟨p, d, x2 + 1, d⟩ := fun z hz e => uniq hput.1.up hz hin e
  have hnm : movB ⟨p, d, x2 + 1, d⟩ = false := by unfold movB; simp
  have h3 : j = 0 ∧ d1 = putM a p ⟨p, d, x2 + 1, d⟩ := by
    cases hdR with
    | bad h => exact absurd ⟨hput.1, hA.2⟩ h
    | late h hn => exact absurd ⟨rfl, .inr ⟨hnm, by show 1 ≤ x2 + 1; omega, by show x2 + 1 - 1 = x2; omega⟩⟩ (hn _ hin rfl)
    | again h => exact ⟨rfl, rfl⟩
    | done h x hx h0 hd3 hm he => rw [only2 x hx h0, hnm] at hm; cases hm
  obtain ⟨rfl, rfl⟩ := h3
  exact ⟨h1, rfl, rfl, rfl, begin_epoch hB hI, hput.1, hin⟩
end Go.Proofs.Ytpkaedpgpncgpaa.Mnt
