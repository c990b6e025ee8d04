/- ViewsFew: the plain law. -/
import Derived.Test.YtndnjmgmdkkifaaVw22
namespace Go.Proofs.Ytndnjmgmdkkifaa.Vw1
open Go Go.RowKit Go.Maps Go.Proofs Go.Proofs.Ytndnjmgmdkkifaa.New Go.Proofs.Ytndnjmgmdkkifaa.Vw Go.Proofs.Ytndnjmgmdkkifaa.Vw0 Go.Proofs.Ytndnjmgmdkkifaa.Q Go.Proofs.YtndnjmgmdkkifaaW.PrintWords Go.Proofs.YtndnjmgmdkkifaaW.PrintLast Go.Proofs.YtndnjmgmdkkifaaW.PrintMore
set_option linter.unusedVariables false
set_option linter.unusedSimpArgs false

/-- the part of the law -/
def fw (n : Int) (L : Log) (st : Int) (a : List Int) : V := ⟨0, 0, L, 0, n, st, a, List.replicate n.toNat none⟩
def okK (n : Int) (a : List Int) (k : Int) : Bool := decide (2 * ((a.countP (fun x => decide (x ≥ k)) : Nat) + 1 : Int) > n)
def wantN (n : Int) (a : List Int) : Nat → Nat
  | 0 => 0
  | k + 1 => if okK n a ((k : Int) + 1) = true then k + 1 else wantN n a k
theorem wantN_le (n : Int) (a : List Int) : ∀ e, wantN n a e ≤ e
  | 0 => Nat.le_refl _
  | e + 1 => by
    unfold wantN
    split
    · exact Nat.le_refl _
    · exact Nat.le_succ_of_le (wantN_le n a e)
theorem wantN_ok (n : Int) (a : List Int) : ∀ e, 0 < wantN n a e → okK n a (wantN n a e) = true
  | 0, h => absurd h (by simp [wantN])
  | e + 1, h => by
    unfold wantN at h ⊢
    split
    · next c => rw [show ((e + 1 : Nat) : Int) = (e : Int) + 1 by omega]; exact c
    · next c => rw [if_neg c] at h; exact wantN_ok n a e h
theorem wantN_max (n : Int) (a : List Int) : ∀ e k : Nat, k ≤ e → wantN n a e < k → okK n a k = false
  | 0, k, h, h2 => by omega
  | e + 1, k, h, h2 => by
    unfold wantN at h2
    split at h2
    · omega
    · next c =>
      by_cases ke : k = e + 1
      · subst ke
        rw [show ((e + 1 : Nat) : Int) = (e : Int) + 1 by omega]
        simpa using c
      · exact wantN_max n a e k (by omega) h2
theorem okK_anti {n : Int} {a : List Int} {k k' : Int} (h : k ≤ k') (hk : okK n a k' = true) : okK n a k = true := by
  unfold okK at hk ⊢
  simp only [decide_eq_true_eq] at hk ⊢
  have : a.countP (fun x => decide (x ≥ k')) ≤ a.countP (fun x => decide (x ≥ k)) := List.countP_mono_left fun x _ hx => by simp at hx ⊢; omega
  omega
theorem count_set (p : Int → Bool) : ∀ (a : List Int) (i : Nat) (v : Int), (p (a.getD i 0) = true → p v = true) → a.countP p ≤ (a.set i v).countP p
  | [], _, _, _ => by simp
  | x :: a, 0, v, h => by
    have hx : p x = true → p v = true := h
    simp only [List.set_cons_zero, List.countP_cons]
    by_cases c : p x = true
    · simp [c, hx c]
    · simp [c]
  | x :: a, i + 1, v, h => by
    have := count_set p a i v (by simpa using h)
    simp only [List.set_cons_succ, List.countP_cons]
    omega
theorem okK_set {n : Int} {a : List Int} {k : Int} (i : Nat) (v : Int) (h : a.getD i 0 ≤ v) (hk : okK n a k = true) : okK n (a.set i v) k = true := by
  unfold okK at hk ⊢
  simp only [decide_eq_true_eq] at hk ⊢
  have := count_set (fun x => decide (x ≥ k)) a i v (fun hx => decide_eq_true (by have := of_decide_eq_true hx; omega))
  omega
theorem want_mono_e (n : Int) (a : List Int) (e : Nat) : wantN n a e ≤ wantN n a (e + 1) := by
  conv => rhs; unfold wantN
  split
  · exact Nat.le_succ_of_le (wantN_le n a e)
  · exact Nat.le_refl _
theorem want_mono_a (n : Int) (a : List Int) (i : Nat) (v : Int) (h : a.getD i 0 ≤ v) (e : Nat) : wantN n a e ≤ wantN n (a.set i v) e := by
  rcases Nat.eq_zero_or_pos (wantN n a e) with c | c
  · omega
  · have h1 := okK_set i v h (wantN_ok n a e c)
    rcases Nat.lt_or_ge (wantN n (a.set i v) e) (wantN n a e) with d | d
    · have := wantN_max n (a.set i v) e _ (wantN_le n a e) d
      rw [this] at h1; cases h1
    · exact d
theorem fw_first (n : Int) (L : Log) (st : Int) (a : List Int) : (fw n L st a).firstB = true := by
  unfold V.firstB V.normalB fw
  simp
theorem fw_others (n : Int) (L : Log) (st : Int) (a : List Int) : (fw n L st a).mostB (fw n L st a).others = okK n a (st + 1) := by
  unfold V.mostB V.others okK fw
  dsimp only
  have : a.countP (fun x => decide (x > st)) = a.countP (fun x => decide (x ≥ st + 1)) := List.countP_congr fun x _ => by simp; omega
  rw [this]
theorem fw_reckonN (n : Int) (L : Log) (a : List Int) : ∀ (k st : Nat), st ≤ wantN n a L.length → wantN n a L.length - st ≤ k → reckonN k (fw n L st a) = fw n L (wantN n a L.length) a
  | 0, st, h1, h2 => by
    have : st = wantN n a L.length := by omega
    rw [this]; rfl
  | k + 1, st, h1, h2 => by
    have hle := wantN_le n a L.length
    unfold reckonN
    rw [fw_first, Bool.true_and, fw_others]
    show (if decide ((st : Int) < L.length) = true then _ else _) = _
    by_cases c : st = wantN n a L.length
    · split
      · next d =>
        have d2 : st < L.length := by simpa using d
        have := wantN_max n a L.length (st + 1) (by omega) (by omega)
        rw [show ((st : Int) + 1) = ((st + 1 : Nat) : Int) by omega, this]
        rw [← c]; rfl
      · rw [← c]
    · rw [if_pos (by simp; omega)]
      have := okK_anti (k := ((st : Int) + 1)) (by omega) (wantN_ok n a L.length (by omega))
      rw [if_pos this]
      have ih := fw_reckonN n L a k (st + 1) (by omega) (by omega)
      rw [← ih]
      rfl
theorem fw_reckon (n : Int) (L : Log) (a : List Int) (st : Nat) (h : st ≤ wantN n a L.length) : (fw n L st a).reckon = fw n L (wantN n a L.length) a := by
  have := wantN_le n a L.length
  exact fw_reckonN n L a L.length st h (by omega)
def eLog (k : Nat) : Log := List.replicate k hE
theorem eLog_len (k : Nat) : (eLog k).length = k := List.length_replicate
theorem eLog_snoc (k : Nat) : eLog k ++ [hE] = eLog (k + 1) := by
  unfold eLog
  rw [List.replicate_succ']
theorem eLog_right (k : Nat) (h : k ≤ 96) : rightL (eLog k) = true := by
  have hb : ∀ k, bytesN (eLog k) = k := fun k => by
    induction k with
    | zero => rfl
    | succ k ih =>
      show hE.size + bytesN (eLog k) = k + 1
      rw [ih]
      show 1 + k = k + 1
      omega
  unfold rightL
  rw [hb k, eLog_len]
  simp only [Bool.and_eq_true, List.all_eq_true, decide_eq_true_eq]
  refine ⟨fun s hs => ?_, h, by omega⟩
  rw [(List.mem_replicate.1 hs).2]
  decide
theorem fw_propose (n : Int) (k : Nat) (h : k < 20) (a : List Int) : (fw n (eLog k) (wantN n a k) a).propose hE = (fw n (eLog (k + 1)) (wantN n a (k + 1)) a, true) := by
  unfold V.propose
  rw [fw_first, Bool.true_and]
  have e : (fw n (eLog k) (wantN n a k) a).log ++ [hE] = eLog (k + 1) := eLog_snoc k
  rw [e, if_pos (eLog_right _ (by omega))]
  show (V.reckon (fw n (eLog (k + 1)) (wantN n a k) a), true) = _
  have := fw_reckon n (eLog (k + 1)) a (wantN n a k) (by rw [eLog_len]; exact want_mono_e n a k)
  rw [this, eLog_len]
def ackL (k : Int) : Ltr := ⟨2, 0, 0, [], k, 0, 0, ⟨#[]⟩⟩
theorem fw_take (n : Int) (e : Nat) (a : List Int) (f : Nat) (k : Int) (h1 : 1 ≤ f) (h2 : (f : Int) < n) (h3 : 0 ≤ k) (h4 : k ≤ 96) :
    (fw n (eLog e) (wantN n a e) a).take f (ackL k) = (fw n (eLog e) (wantN n (a.set f (imax (a.getD f 0) k)) e) (a.set f (imax (a.getD f 0) k)), true) := by
  have ho : (fw n (eLog e) (wantN n a e) a).otherB f = true := by
    unfold V.otherB fw
    simp
    omega
  have hr : (fw n (eLog e) (wantN n a e) a).rightB (ackL k) = true := by
    unfold V.rightB fw ackL
    simp [h3, h4]
    decide
  unfold V.take
  rw [ho, hr, if_pos (by decide)]
  have hv : ¬ (fw n (eLog e) (wantN n a e) a).view < (ackL k).view := by unfold fw ackL; simp
  rw [if_neg hv]
  unfold V.got
  rw [fw_first, if_neg (by unfold ackL; simp), if_pos (by unfold ackL; simp)]
  show (V.reckon (fw n (eLog e) (wantN n a e) (a.set (f : Int).toNat (imax (a.getD (f : Int).toNat 0) k))), true) = _
  rw [Int.toNat_natCast]
  have := fw_reckon n (eLog e) (a.set f (imax (a.getD f 0) k)) (wantN n a e) (by rw [eLog_len]; exact want_mono_a n a f _ (by unfold imax; split <;> omega) e)
  rw [this, eLog_len]
/-- how many of the rest are at least k -/
theorem count_tail (a : List Int) (k : Int) (hk : 1 ≤ k) (h0 : a.getD 0 0 = 0) : a.countP (fun x => decide (x ≥ k)) = (a.drop 1).countP (fun x => decide (x ≥ k)) := by
  cases a with
  | nil => rfl
  | cons x a =>
    have : x = 0 := h0
    subst this
    simp only [List.countP_cons, List.drop_succ_cons, List.drop_zero]
    rw [if_neg (by simp; omega), Nat.add_zero]
theorem count_step (a : List Int) (k : Int) (i : Nat) (h : i < a.length) (h1 : 1 ≤ i) : ((a.take (i + 1)).drop 1).countP (fun x => decide (x ≥ k)) = ((a.take i).drop 1).countP (fun x => decide (x ≥ k)) + (if a[i] ≥ k then 1 else 0) := by
  rw [List.take_succ_eq_append_getElem h, List.drop_append_of_le_length (by rw [List.length_take]; omega), List.countP_append]
  simp [List.countP_singleton]
end Go.Proofs.Ytndnjmgmdkkifaa.Vw1
