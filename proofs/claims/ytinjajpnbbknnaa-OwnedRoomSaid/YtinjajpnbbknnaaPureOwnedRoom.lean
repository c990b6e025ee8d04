/- OwnedRoom, without memory: as many ranges as may be can be installed, and no more; one that is there can be installed with a greater epoch still. -/
import Derived.Test.YtinjajpnbbknnaaRng1
import Derived.Test.YtinjajpnbbknnaaQx24
import Derived.KernelRfl
namespace Go.Proofs.Ytinjajpnbbknnaa.Pure
open Go Go.RowKit Go.Proofs.Ytinjajpnbbknnaa.Q Go.Proofs.Ytinjajpnbbknnaa.PathF Go.Proofs.Ytinjajpnbbknnaa.Rng Go.Proofs.YtinjajpnbbknnaaW.PrintWords Go.Proofs.YtinjajpnbbknnaaW.PrintLast

def rdg (n : Nat) : UInt8 := UInt8.ofNat (48 + n % 10)
/-- the i-th part, and its path -/
def rP (i : Nat) : ByteArray := ⟨#[112, rdg (i / 1000), rdg (i / 100), rdg (i / 10), rdg i]⟩
def rQ (i : Nat) : ByteArray := ⟨#[47, 112, rdg (i / 1000), rdg (i / 100), rdg (i / 10), rdg i]⟩
theorem num_0 : cantonref01_Numbered.f 20 ⟨#[112]⟩ 0 = some (rP 0, true) := by kernel_rfl
theorem num_1 : cantonref01_Numbered.f 20 ⟨#[112]⟩ 1 = some (rP 1, true) := by kernel_rfl
theorem num_2 : cantonref01_Numbered.f 20 ⟨#[112]⟩ 2 = some (rP 2, true) := by kernel_rfl
theorem num_3 : cantonref01_Numbered.f 20 ⟨#[112]⟩ 3 = some (rP 3, true) := by kernel_rfl
theorem num_4 : cantonref01_Numbered.f 20 ⟨#[112]⟩ 4 = some (rP 4, true) := by kernel_rfl
theorem num_5 : cantonref01_Numbered.f 20 ⟨#[112]⟩ 5 = some (rP 5, true) := by kernel_rfl
theorem num_6 : cantonref01_Numbered.f 20 ⟨#[112]⟩ 6 = some (rP 6, true) := by kernel_rfl
theorem num_7 : cantonref01_Numbered.f 20 ⟨#[112]⟩ 7 = some (rP 7, true) := by kernel_rfl
theorem num_8 : cantonref01_Numbered.f 20 ⟨#[112]⟩ 8 = some (rP 8, true) := by kernel_rfl
theorem num_9 : cantonref01_Numbered.f 20 ⟨#[112]⟩ 9 = some (rP 9, true) := by kernel_rfl
theorem num_10 : cantonref01_Numbered.f 20 ⟨#[112]⟩ 10 = some (rP 10, true) := by kernel_rfl
theorem num_11 : cantonref01_Numbered.f 20 ⟨#[112]⟩ 11 = some (rP 11, true) := by kernel_rfl
theorem num_12 : cantonref01_Numbered.f 20 ⟨#[112]⟩ 12 = some (rP 12, true) := by kernel_rfl
theorem num_13 : cantonref01_Numbered.f 20 ⟨#[112]⟩ 13 = some (rP 13, true) := by kernel_rfl
theorem num_14 : cantonref01_Numbered.f 20 ⟨#[112]⟩ 14 = some (rP 14, true) := by kernel_rfl
theorem num_15 : cantonref01_Numbered.f 20 ⟨#[112]⟩ 15 = some (rP 15, true) := by kernel_rfl
theorem num_16 : cantonref01_Numbered.f 20 ⟨#[112]⟩ 16 = some (rP 16, true) := by kernel_rfl
theorem num_17 : cantonref01_Numbered.f 20 ⟨#[112]⟩ 17 = some (rP 17, true) := by kernel_rfl
theorem num_18 : cantonref01_Numbered.f 20 ⟨#[112]⟩ 18 = some (rP 18, true) := by kernel_rfl
theorem num_19 : cantonref01_Numbered.f 20 ⟨#[112]⟩ 19 = some (rP 19, true) := by kernel_rfl
theorem num_20 : cantonref01_Numbered.f 20 ⟨#[112]⟩ 20 = some (rP 20, true) := by kernel_rfl
theorem num_21 : cantonref01_Numbered.f 20 ⟨#[112]⟩ 21 = some (rP 21, true) := by kernel_rfl
theorem num_22 : cantonref01_Numbered.f 20 ⟨#[112]⟩ 22 = some (rP 22, true) := by kernel_rfl
theorem num_23 : cantonref01_Numbered.f 20 ⟨#[112]⟩ 23 = some (rP 23, true) := by kernel_rfl
theorem num_24 : cantonref01_Numbered.f 20 ⟨#[112]⟩ 24 = some (rP 24, true) := by kernel_rfl
theorem num_25 : cantonref01_Numbered.f 20 ⟨#[112]⟩ 25 = some (rP 25, true) := by kernel_rfl
theorem num_26 : cantonref01_Numbered.f 20 ⟨#[112]⟩ 26 = some (rP 26, true) := by kernel_rfl
theorem num_27 : cantonref01_Numbered.f 20 ⟨#[112]⟩ 27 = some (rP 27, true) := by kernel_rfl
theorem num_28 : cantonref01_Numbered.f 20 ⟨#[112]⟩ 28 = some (rP 28, true) := by kernel_rfl
theorem num_29 : cantonref01_Numbered.f 20 ⟨#[112]⟩ 29 = some (rP 29, true) := by kernel_rfl
theorem num_30 : cantonref01_Numbered.f 20 ⟨#[112]⟩ 30 = some (rP 30, true) := by kernel_rfl
theorem num_31 : cantonref01_Numbered.f 20 ⟨#[112]⟩ 31 = some (rP 31, true) := by kernel_rfl
theorem num_32 : cantonref01_Numbered.f 20 ⟨#[112]⟩ 32 = some (rP 32, true) := by kernel_rfl
theorem num_33 : cantonref01_Numbered.f 20 ⟨#[112]⟩ 33 = some (rP 33, true) := by kernel_rfl
theorem num_34 : cantonref01_Numbered.f 20 ⟨#[112]⟩ 34 = some (rP 34, true) := by kernel_rfl
theorem num_35 : cantonref01_Numbered.f 20 ⟨#[112]⟩ 35 = some (rP 35, true) := by kernel_rfl
theorem num_36 : cantonref01_Numbered.f 20 ⟨#[112]⟩ 36 = some (rP 36, true) := by kernel_rfl
theorem num_37 : cantonref01_Numbered.f 20 ⟨#[112]⟩ 37 = some (rP 37, true) := by kernel_rfl
theorem num_38 : cantonref01_Numbered.f 20 ⟨#[112]⟩ 38 = some (rP 38, true) := by kernel_rfl
theorem num_39 : cantonref01_Numbered.f 20 ⟨#[112]⟩ 39 = some (rP 39, true) := by kernel_rfl
theorem num_40 : cantonref01_Numbered.f 20 ⟨#[112]⟩ 40 = some (rP 40, true) := by kernel_rfl
theorem num_41 : cantonref01_Numbered.f 20 ⟨#[112]⟩ 41 = some (rP 41, true) := by kernel_rfl
theorem num_42 : cantonref01_Numbered.f 20 ⟨#[112]⟩ 42 = some (rP 42, true) := by kernel_rfl
theorem num_43 : cantonref01_Numbered.f 20 ⟨#[112]⟩ 43 = some (rP 43, true) := by kernel_rfl
theorem num_44 : cantonref01_Numbered.f 20 ⟨#[112]⟩ 44 = some (rP 44, true) := by kernel_rfl
theorem num_45 : cantonref01_Numbered.f 20 ⟨#[112]⟩ 45 = some (rP 45, true) := by kernel_rfl
theorem num_46 : cantonref01_Numbered.f 20 ⟨#[112]⟩ 46 = some (rP 46, true) := by kernel_rfl
theorem num_47 : cantonref01_Numbered.f 20 ⟨#[112]⟩ 47 = some (rP 47, true) := by kernel_rfl
theorem num_48 : cantonref01_Numbered.f 20 ⟨#[112]⟩ 48 = some (rP 48, true) := by kernel_rfl
theorem num_49 : cantonref01_Numbered.f 20 ⟨#[112]⟩ 49 = some (rP 49, true) := by kernel_rfl
theorem num_50 : cantonref01_Numbered.f 20 ⟨#[112]⟩ 50 = some (rP 50, true) := by kernel_rfl
theorem num_51 : cantonref01_Numbered.f 20 ⟨#[112]⟩ 51 = some (rP 51, true) := by kernel_rfl
theorem num_52 : cantonref01_Numbered.f 20 ⟨#[112]⟩ 52 = some (rP 52, true) := by kernel_rfl
theorem num_53 : cantonref01_Numbered.f 20 ⟨#[112]⟩ 53 = some (rP 53, true) := by kernel_rfl
theorem num_54 : cantonref01_Numbered.f 20 ⟨#[112]⟩ 54 = some (rP 54, true) := by kernel_rfl
theorem num_55 : cantonref01_Numbered.f 20 ⟨#[112]⟩ 55 = some (rP 55, true) := by kernel_rfl
theorem num_56 : cantonref01_Numbered.f 20 ⟨#[112]⟩ 56 = some (rP 56, true) := by kernel_rfl
theorem num_57 : cantonref01_Numbered.f 20 ⟨#[112]⟩ 57 = some (rP 57, true) := by kernel_rfl
theorem num_58 : cantonref01_Numbered.f 20 ⟨#[112]⟩ 58 = some (rP 58, true) := by kernel_rfl
theorem num_59 : cantonref01_Numbered.f 20 ⟨#[112]⟩ 59 = some (rP 59, true) := by kernel_rfl
theorem num_all : ∀ i : Nat, i < 60 → cantonref01_Numbered.f 20 ⟨#[112]⟩ (i : Int) = some (rP i, true)
  | 0, _ => num_0
  | 1, _ => num_1
  | 2, _ => num_2
  | 3, _ => num_3
  | 4, _ => num_4
  | 5, _ => num_5
  | 6, _ => num_6
  | 7, _ => num_7
  | 8, _ => num_8
  | 9, _ => num_9
  | 10, _ => num_10
  | 11, _ => num_11
  | 12, _ => num_12
  | 13, _ => num_13
  | 14, _ => num_14
  | 15, _ => num_15
  | 16, _ => num_16
  | 17, _ => num_17
  | 18, _ => num_18
  | 19, _ => num_19
  | 20, _ => num_20
  | 21, _ => num_21
  | 22, _ => num_22
  | 23, _ => num_23
  | 24, _ => num_24
  | 25, _ => num_25
  | 26, _ => num_26
  | 27, _ => num_27
  | 28, _ => num_28
  | 29, _ => num_29
  | 30, _ => num_30
  | 31, _ => num_31
  | 32, _ => num_32
  | 33, _ => num_33
  | 34, _ => num_34
  | 35, _ => num_35
  | 36, _ => num_36
  | 37, _ => num_37
  | 38, _ => num_38
  | 39, _ => num_39
  | 40, _ => num_40
  | 41, _ => num_41
  | 42, _ => num_42
  | 43, _ => num_43
  | 44, _ => num_44
  | 45, _ => num_45
  | 46, _ => num_46
  | 47, _ => num_47
  | 48, _ => num_48
  | 49, _ => num_49
  | 50, _ => num_50
  | 51, _ => num_51
  | 52, _ => num_52
  | 53, _ => num_53
  | 54, _ => num_54
  | 55, _ => num_55
  | 56, _ => num_56
  | 57, _ => num_57
  | 58, _ => num_58
  | 59, _ => num_59
  | n + 60, h => absurd h (by omega)
theorem num_le (k n : Nat) (p : ByteArray) (x : Int) (r : ByteArray × Bool) (h : cantonref01_Numbered.f k p x = some r) : cantonref01_Numbered.f (k + n) p x = some r := by
  induction n with
  | zero => exact h
  | succ n ih => exact cantonref01_Numbered.mono p x (k + n) r ih
theorem path_all : ∀ i : Fin 60, isP (rQ i.val) = true := by decide +kernel
theorem path_ne : ∀ i j : Fin 60, i.val ≠ j.val → (rQ i.val).data.toList ≠ (rQ j.val).data.toList := by decide +kernel
theorem rQ_inj {i j : Nat} (hi : i < 60) (hj : j < 60) (h : rQ i = rQ j) : i = j := by
  by_cases e : i = j
  · exact e
  · exact absurd (by rw [h]) (path_ne ⟨i, hi⟩ ⟨j, hj⟩ e)
structure Inv (ep : Int) (i : Nat) (l : List S) : Prop where
  right : RightM l
  len : l.length = min i 32
  mem : ∀ y ∈ l, ∃ j : Nat, j < min i 32 ∧ y.f0 = rQ j
  one : 0 < i → ⟨rQ 0, ep, 1⟩ ∈ l
theorem get_none {ep : Int} {i : Nat} {l : List S} (h : Inv ep i l) (hi : i < 60) : getO l (rQ i) = none := by
  cases hg : getO l (rQ i) with
  | none => rfl
  | some y =>
    obtain ⟨h1, h2⟩ := getO_some hg
    obtain ⟨j, hj, hj2⟩ := h.mem y h1
    have := rQ_inj hi (show j < 60 by omega) (h2.symm.trans hj2)
    omega
theorem step_yes {ep : Int} (h0 : 0 ≤ ep) (h1 : ep ≤ 65535) {i : Nat} {l : List S} (h : Inv ep i l) (hi : i < 32) : ∃ m, insR l (rQ i) ep = (m, true) ∧ Inv ep (i + 1) m := by
  have hp : isP (rQ i) = true := path_all ⟨i, by omega⟩
  have hg := get_none h (by omega)
  have hlen := h.len
  have hok : okE ⟨rQ i, ep, 1⟩ = true := okR hp h0 (by omega) (by decide)
  rcases putR_cases h.right hok with ⟨_, _, h3⟩ | ⟨h3, hP⟩
  · omega
  · refine ⟨putL ⟨rQ i, ep, 1⟩ l, ?_, hP.right, ?_, fun y hy => ?_, fun _ => ?_⟩
    · unfold insR
      rw [if_pos ⟨(right_iff l).2 h.right, hp, h0, by omega⟩, hg]
      exact h3
    · rw [put_len _ h.right.up]
      have hgn : (getO l (rQ i)).isNone = true := by rw [hg]; rfl
      rw [if_pos hgn]
      omega
    · rcases (mem_put _ h.right.up y).1 hy with rfl | ⟨h4, _⟩
      · exact ⟨i, by omega, rfl⟩
      · obtain ⟨j, hj, hj2⟩ := h.mem y h4
        exact ⟨j, by omega, hj2⟩
    · refine (mem_put _ h.right.up _).2 ?_
      by_cases e : i = 0
      · subst e; exact .inl rfl
      · exact .inr ⟨h.one (by omega), fun e2 => by have := rQ_inj (by omega) (by omega) e2; omega⟩
theorem step_no {ep : Int} (h0 : 0 ≤ ep) (h1 : ep ≤ 65535) {i : Nat} {l : List S} (h : Inv ep i l) (hi : 32 ≤ i) (h60 : i < 60) : insR l (rQ i) ep = ([], false) := by
  have hp : isP (rQ i) = true := path_all ⟨i, h60⟩
  have hg := get_none h h60
  have hlen := h.len
  unfold insR
  rw [if_pos ⟨(right_iff l).2 h.right, hp, h0, by omega⟩, hg]
  show putR l _ = _
  unfold putR
  have hgn : (getO l (rQ i)).isNone = true := by rw [hg]; rfl
  rw [if_pos ⟨hgn, by omega⟩]
theorem room_loop (x0 x1 : Int) (n : Nat) (hn : wrap64 (Int.tmod x0 60) = (n : Int)) (h60 : n < 60) (h0 : 0 ≤ x1) (h1 : x1 ≤ 65535) : ∀ (j i k : Nat) (l : List S), i + j = n → j + 1000 < k → Inv x1 i l →
    cantonlaw11_OwnedRoom.l0 k x0 x1 true l (i : Int) = some true
  | j, i, 0, l, _, h, _ => absurd h (by omega)
  | 0, i, k + 1, l, hi, hk, hI => by
    obtain rfl : i = n := by omega
    have hlen := hI.len
    have hw : wrap64 x1 = x1 := w64 (by omega) (by omega)
    rw [cantonlaw11_OwnedRoom.l0, hn, if_neg (by omega)]
    by_cases c : (l.length : Int) = 0
    · rw [if_pos c]
    · rw [if_neg c, hw, w64 (by omega) (by omega)]
      have hone := hI.one (by omega)
      have hg : getO l ⟨#[47, 112, 48, 48, 48, 48]⟩ = some ⟨rQ 0, x1, 1⟩ := getO_of hI.right.up hone
      have hp : isP ⟨#[47, 112, 48, 48, 48, 48]⟩ = true := by decide +kernel
      have hRB := (right_iff l).2 hI.right
      have hok : okE ⟨⟨#[47, 112, 48, 48, 48, 48]⟩, x1 + 1, 1⟩ = true := okR hp (by omega) (by omega) (by decide)
      rw [install_is l (by omega) _ _ k (by omega), Option.bind_some, install_is l (by omega) _ _ k (by omega), Option.bind_some, if_pos rfl]
      have hb : insR l ⟨#[47, 112, 48, 48, 48, 48]⟩ x1 = ([], false) := by
        unfold insR
        rw [if_pos ⟨hRB, hp, h0, by omega⟩, hg]
        dsimp only
        rw [if_pos (by omega)]
      have ha : insR l ⟨#[47, 112, 48, 48, 48, 48]⟩ (x1 + 1) = (putL ⟨⟨#[47, 112, 48, 48, 48, 48]⟩, x1 + 1, 1⟩ l, true) := by
        unfold insR
        rw [if_pos ⟨hRB, hp, by omega, by omega⟩, hg]
        dsimp only
        rw [if_neg (by omega)]
        rcases putR_cases hI.right hok with ⟨_, h3, _⟩ | ⟨h3, _⟩
        · have h3' : getO l ⟨#[47, 112, 48, 48, 48, 48]⟩ = none := h3
          rw [hg] at h3'; cases h3'
        · exact h3
      rw [ha, hb, if_pos rfl, if_neg (by simp)]
      have hl2 : (putL ⟨⟨#[47, 112, 48, 48, 48, 48]⟩, x1 + 1, 1⟩ l).length = l.length := by
        rw [put_len _ hI.right.up]
        have hgn : (getO l ⟨#[47, 112, 48, 48, 48, 48]⟩).isNone = false := by rw [hg]; rfl
        rw [if_neg (by show ¬ (getO l ⟨#[47, 112, 48, 48, 48, 48]⟩).isNone = true; rw [hgn]; simp)]
      show some (((putL ⟨⟨#[47, 112, 48, 48, 48, 48]⟩, x1 + 1, 1⟩ l).length : Int) == (l.length : Int)) = some true
      rw [hl2]; simp
  | j + 1, i, k + 1, l, hi, hk, hI => by
    have hlen := hI.len
    have hw : wrap64 x1 = x1 := w64 (by omega) (by omega)
    have hw3 : wrap64 ((i : Int) + 1) = ((i + 1 : Nat) : Int) := by rw [w64 (by omega) (by omega)]; omega
    have hnum : cantonref01_Numbered.f k ⟨#[112]⟩ (i : Int) = some (rP i, true) := by
      have := num_le 20 (k - 20) _ _ _ (num_all i (by omega))
      rwa [show 20 + (k - 20) = k by omega] at this
    have hq : (⟨#[47]⟩ : ByteArray) ++ rP i = rQ i := L_inj (by rw [L_app]; rfl)
    rw [cantonlaw11_OwnedRoom.l0, hn, if_pos (by omega), hnum, Option.bind_some, if_pos (by show 1 + 5 ≤ _; decide), hw]
    show (owned_Install.f k l ((⟨#[47]⟩ : ByteArray) ++ rP i) x1).bind _ = _
    rw [hq, install_is l (by omega) _ _ k (by omega), Option.bind_some, hw3]
    by_cases c : i < 32
    · obtain ⟨m, hm, hI'⟩ := step_yes h0 h1 hI c
      rw [hm, decide_eq_true (show (i : Int) < 32 by omega), if_neg (by simp), if_pos rfl]
      exact room_loop x0 x1 n hn h60 h0 h1 j (i + 1) k m (by omega) (by omega) hI'
    · rw [step_no h0 h1 hI (by omega) (by omega), decide_eq_false (show ¬ (i : Int) < 32 by omega), if_neg (by simp), if_neg (by simp)]
      refine room_loop x0 x1 n hn h60 h0 h1 j (i + 1) k l (by omega) (by omega) ⟨hI.right, by omega, fun y hy => ?_, fun _ => hI.one (by omega)⟩
      obtain ⟨q, hq1, hq2⟩ := hI.mem y hy
      exact ⟨q, by omega, hq2⟩
theorem OwnedRoom : cantonlaw11_OwnedRoom.Pure := by
  intro x0 x1 h0 h1
  have hx : 0 ≤ x0 ∧ x0 ≤ 255 := by
    have h : IntKind.u8.min ≤ x0 ∧ x0 ≤ IntKind.u8.max := by simpa [Lit.wf] using h0
    exact h
  have hy : 0 ≤ x1 ∧ x1 ≤ 65535 := by
    have h : IntKind.u16.min ≤ x1 ∧ x1 ≤ IntKind.u16.max := by simpa [Lit.wf] using h1
    exact h
  refine ⟨5000, ?_⟩
  unfold cantonlaw11_OwnedRoom.f
  rw [head_is _ (by omega), Option.bind_some]
  have hn : wrap64 (Int.tmod x0 60) = ((x0.toNat % 60 : Nat) : Int) := by
    rw [Int.tmod_eq_emod_of_nonneg (by omega), w64 (by omega) (by omega)]; omega
  exact room_loop x0 x1 (x0.toNat % 60) hn (Nat.mod_lt _ (by decide)) hy.1 hy.2 (x0.toNat % 60) 0 5000 [] (by omega) (by omega) ⟨⟨by simp, by simp, by simp⟩, rfl, by simp, fun h => absurd h (by omega)⟩
end Go.Proofs.Ytinjajpnbbknnaa.Pure
