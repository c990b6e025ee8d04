/- Mounts: the place of a prefix; what Begin and Flip answer, of lists alone. -/
import Derived.Test.YtpkaedpgpncgpaaMnt0
import Derived.Test.YtpkaedpgpncgpaaMBegin4
import Derived.Test.YtpkaedpgpncgpaaMFlip2
namespace Go.Proofs.Ytpkaedpgpncgpaa.Mnt
open Go Go.RowKit Go.Proofs.Ytpkaedpgpncgpaa.Rune Go.Proofs.Ytpkaedpgpncgpaa.Split Go.Proofs.Ytpkaedpgpncgpaa.PathT Go.Proofs.Ytpkaedpgpncgpaa.PathF Go.Proofs.Ytpkaedpgpncgpaa.Q Go.Proofs.Ytpkaedpgpncgpaa.MBegin Go.Proofs.YtpkaedpgpncgpaaW.PrintWords Go.Proofs.YtpkaedpgpncgpaaW.PrintLast Go.Proofs.YtpkaedpgpncgpaaW.PrintMore

theorem bs_spec (cmp : S → Int) (l : List S) (n : Nat) (hmono : ∀ i j : Nat, i < j → j < n → cmp (rd l (j : Int)) < 0 → cmp (rd l (i : Int)) < 0) : ∀ (k i j : Nat), j - i ≤ k → i ≤ j → j ≤ n →
    (∀ m : Nat, m < i → cmp (rd l (m : Int)) < 0) → (∀ m : Nat, j ≤ m → m < n → ¬ cmp (rd l (m : Int)) < 0) →
    (∀ m : Nat, m < BMount.bs cmp l k i j → cmp (rd l (m : Int)) < 0) ∧ (∀ m : Nat, BMount.bs cmp l k i j ≤ m → m < n → ¬ cmp (rd l (m : Int)) < 0) ∧ BMount.bs cmp l k i j ≤ n
  | 0, i, j, hk, hij, hj, h1, h2 => by
    obtain rfl : i = j := by omega
    exact ⟨h1, h2, hj⟩
  | k + 1, i, j, hk, hij, hj, h1, h2 => by
    unfold BMount.bs
    by_cases hlt : i < j
    · rw [if_pos hlt]
      by_cases hc : cmp (rd_T27 l ((i + j) / 2 : Nat)) < 0
      · rw [if_pos hc]
        refine bs_spec cmp l n hmono k _ _ (by omega) (by omega) hj (fun m hm => ?_) h2
        by_cases e : m = (i + j) / 2
        · rw [e]; exact hc
        · exact hmono m ((i + j) / 2) (by omega) (by omega) hc
      · rw [if_neg hc]
        refine bs_spec cmp l n hmono k _ _ (by omega) (by omega) (by omega) h1 (fun m hm hmn => ?_)
        by_cases e : m = (i + j) / 2
        · rw [e]; exact hc
        · intro hm2
          exact hc (hmono ((i + j) / 2) m (by omega) hmn hm2)
    · rw [if_neg hlt]
      obtain rfl : i = j := by omega
      exact ⟨h1, h2, hj⟩
theorem cmp_lt (p : ByteArray) (x : S) : cmpP p x < 0 ↔ lessB x.f0 p = true := by
  unfold cmpP lessB
  rw [toL, toL]
  exact (cmp_less _ _).1
theorem cmp_zero (p : ByteArray) (x : S) : cmpP p x = 0 ↔ x.f0 = p := by
  unfold cmpP
  refine (cmp_less _ _).2.trans ⟨fun h => L_inj h, fun h => by rw [h]⟩
theorem up_get {l : List S} (h : l.Pairwise Less) {i j : Nat} (hij : i < j) (hj : j < l.length) : lessB (rd l (i : Int)).f0 (rd l (j : Int)).f0 = true := by
  rw [rd_get l i (by omega), rd_get l j hj]
  exact List.pairwise_iff_getElem.1 h i j (by omega) hj hij
/-- the place of a prefix: those ahead are less, those from there on are not -/
theorem at_spec {l : List S} (h : l.Pairwise Less) (p : ByteArray) : at_ p l ≤ l.length ∧ (∀ m : Nat, m < at_ p l → lessB (rd l (m : Int)).f0 p = true) ∧ ∀ m : Nat, at_ p l ≤ m → m < l.length → lessB (rd l (m : Int)).f0 p = false := by
  obtain ⟨h1, h2, h3⟩ := bs_spec (cmpP p) l l.length (fun i j hij hj hc => (cmp_lt p _).2 (lessB_trans (up_get h hij hj) ((cmp_lt p _).1 hc))) l.length 0 l.length (by omega) (by omega) (by omega) (fun m hm => absurd hm (by omega)) (fun m hm hm2 => absurd hm2 (by omega))
  exact ⟨h3, fun m hm => (cmp_lt p _).1 (h1 m hm), fun m hm hm2 => by
    have := h2 m hm hm2
    rw [cmp_lt] at this
    simpa using this⟩
theorem own_spec {l : List S} (p : ByteArray) (h : own_ p l = true) : at_ p l < l.length ∧ (rd l (at_ p l : Nat)).f0 = p := by
  unfold own_ BMount.bsB at h
  simp only [Bool.and_eq_true, decide_eq_true_eq] at h
  exact ⟨h.1, (cmp_zero p _).1 h.2⟩
theorem own_of {l : List S} (h : l.Pairwise Less) {i : Nat} (hi : i < l.length) : own_ (rd l (i : Int)).f0 l = true ∧ at_ (rd l (i : Int)).f0 l = i := by
  obtain ⟨h1, h2, h3⟩ := at_spec h (rd l (i : Int)).f0
  have e : at_ (rd l (i : Int)).f0 l = i := by
    rcases Nat.lt_trichotomy (at_ (rd l (i : Int)).f0 l) i with hlt | e | hlt
    · have := h3 _ (Nat.le_refl _) (by omega)
      rw [up_get h hlt hi] at this; cases this
    · exact e
    · have := h2 i hlt
      rw [lessB_irrefl] at this; cases this
  refine ⟨?_, e⟩
  unfold own_ BMount.bsB
  rw [e, decide_eq_true hi, decide_eq_true ((cmp_zero _ _).2 rfl)]
  rfl
theorem own_no {l : List S} (h : l.Pairwise Less) (p : ByteArray) (ho : own_ p l = false) : ∀ m : Nat, m < l.length → (rd l (m : Int)).f0 ≠ p := by
  intro m hm e
  have := (own_of h hm).1
  rw [e, ho] at this; cases this
theorem inK_is (a b : ByteArray) : inK a b = inP a b := by
  unfold inK
  rw [PathF.in_is _ _ 1 (by omega)]; rfl
theorem inOk_is (p : ByteArray) (x : S) : inOk p x = true := by
  unfold inOk
  rw [PathF.in_is _ _ 1 (by omega), PathF.in_is _ _ 1 (by omega)]; rfl
def grp (d : Int) : Bool := decide (0 ≤ d) && decide (d < 4)
def near (p q : ByteArray) : Bool := inP p q || inP q p
theorem busy_is (p : ByteArray) (x : S) : busyB p x = (movB x && near p x.f0) := by
  unfold busyB near
  rw [inK_is, inK_is]
/-- may a Begin be asked so? -/
def Asks (l : List S) (p : ByteArray) (d : Int) : Prop := RightM l ∧ isP p = true ∧ grp d = true
/-- what is put in -/
def putM (l : List S) (p : ByteArray) (x : S) : List S := if own_ p l = true then l.set (at_ p l) x else l.take (at_ p l) ++ x :: l.drop (at_ p l)
inductive BeginR (l : List S) (p : ByteArray) (d : Int) : List S → ByteArray → Int → Int → Int → Int → Prop
  | bad (h : ¬ Asks l p d) : BeginR l p d [] ⟨#[]⟩ 0 0 0 1
  | same (h : Asks l p d) (ho : own_ p l = true) (hm : movB (rd l (at_ p l : Nat)) = true) (hd : (rd l (at_ p l : Nat)).f3 = d) : BeginR l p d l (rd l (at_ p l : Nat)).f0 (rd l (at_ p l : Nat)).f1 (rd l (at_ p l : Nat)).f2 (rd l (at_ p l : Nat)).f3 0
  | busy (h : Asks l p d) (hn : ¬ (own_ p l = true ∧ movB (rd l (at_ p l : Nat)) = true ∧ (rd l (at_ p l : Nat)).f3 = d)) (hb : l.any (busyB p) = true) : BeginR l p d l ⟨#[]⟩ 0 0 0 131
  | there (h : Asks l p d) (hb : l.any (busyB p) = false) (a : Nat) (ha : IsOf l p a) (ht : (rd l (a : Int)).f1 = d) : BeginR l p d l ⟨#[]⟩ 0 0 0 61
  | many (h : Asks l p d) (hb : l.any (busyB p) = false) (a : Nat) (ha : IsOf l p a) (ht : (rd l (a : Int)).f1 ≠ d) (hm : (own_ p l = false ∧ l.length = 32) ∨ (rd l (a : Int)).f2 = 281474976710656) : BeginR l p d l ⟨#[]⟩ 0 0 0 2
  | new (h : Asks l p d) (hb : l.any (busyB p) = false) (a : Nat) (ha : IsOf l p a) (ht : (rd l (a : Int)).f1 ≠ d) (hm : own_ p l = true ∨ l.length < 32) (he : (rd l (a : Int)).f2 ≠ 281474976710656) :
      BeginR l p d (putM l p ⟨p, (rd l (a : Int)).f1, (rd l (a : Int)).f2, d⟩) p (rd l (a : Int)).f1 (rd l (a : Int)).f2 d 0
theorem begin_is (l : List S) (hl : l.length ≤ 9223372036854775000) (p : ByteArray) (d : Int) : ∃ r1 r2 r3 r4 r5 r6, mounts_Begin.f l p d = some (r1, r2, r3, r4, r5, r6) ∧ BeginR l p d r1 r2 r3 r4 r5 r6 := by
  unfold mounts_Begin.f
  rw [right_is l (by omega) (l.length + 10) (by omega), PathF.right_is, group_is, Option.bind_some, Option.bind_some, Option.bind_some]
  by_cases hA : (RightB l && (isP p && grp d)) = false
  · rw [show (decide (0 ≤ d) && decide (d < 4)) = grp d by rfl, if_pos hA]
    refine ⟨_, _, _, _, _, _, rfl, .bad ?_⟩
    rintro ⟨h1, h2, h3⟩
    rw [(right_iff l).2 h1, h2, h3] at hA; cases hA
  · have hA2 : RightB l = true ∧ isP p = true ∧ grp d = true := by simpa using hA
    have hAs : Asks l p d := ⟨(right_iff l).1 hA2.1, hA2.2⟩
    have hR := hAs.1
    rw [show (decide (0 ≤ d) && decide (d < 4)) = grp d by rfl, if_neg hA, if_neg (by have := hR.few; omega)]
    show ∃ r1 r2 r3 r4 r5 r6, (if (own_ p l && (movB (rd l (at_ p l : Nat)) && decide ((rd l (at_ p l : Nat)).f3 = d))) = true then _ else _) = _ ∧ _
    by_cases hs : (own_ p l && (movB (rd l (at_ p l : Nat)) && decide ((rd l (at_ p l : Nat)).f3 = d))) = true
    · rw [if_pos hs]
      simp only [Bool.and_eq_true, decide_eq_true_eq] at hs
      exact ⟨_, _, _, _, _, _, rfl, .same hAs hs.1 hs.2.1 hs.2.2⟩
    · rw [if_neg hs]
      have hs' : ¬ (own_ p l = true ∧ movB (rd l (at_ p l : Nat)) = true ∧ (rd l (at_ p l : Nat)).f3 = d) := fun ⟨h1, h2, h3⟩ => hs (by rw [h1, h2, decide_eq_true h3]; rfl)
      have hall : l.all (inOk p) = true := List.all_eq_true.2 (fun x _ => inOk_is p x)
      rw [if_neg (by rw [hall]; simp)]
      obtain ⟨a, hof, ha⟩ := of_right hR hAs.2.1 (kOf l) (by unfold kOf; omega)
      rw [hof, Option.bind_some, if_pos ⟨by omega, by have := ha.lt; omega⟩]
      by_cases hb : l.any (busyB p) = true
      · simp only [if_pos hb]
        exact ⟨_, _, _, _, _, _, rfl, .busy hAs hs' hb⟩
      · simp only [if_neg hb]
        have hb' : l.any (busyB p) = false := by simpa using hb
        by_cases ht : (rd l (a : Int)).f1 = d
        · rw [if_pos ht]
          exact ⟨_, _, _, _, _, _, rfl, .there hAs hb' a ha ht⟩
        · rw [if_neg ht]
          by_cases hm : (!own_ p l && decide (l.length = 32)) = true
          · rw [if_pos hm]
            simp only [Bool.and_eq_true, Bool.not_eq_true', decide_eq_true_eq] at hm
            exact ⟨_, _, _, _, _, _, rfl, .many hAs hb' a ha ht (.inl hm)⟩
          · rw [if_neg hm]
            by_cases he : (rd l (a : Int)).f2 = 281474976710656
            · rw [if_pos he]
              exact ⟨_, _, _, _, _, _, rfl, .many hAs hb' a ha ht (.inr he)⟩
            · rw [if_neg he]
              have hm2 : own_ p l = true ∨ l.length < 32 := by
                cases ho : own_ p l with
                | true => exact .inl rfl
                | false =>
                  rw [ho] at hm
                  simp at hm
                  have := hR.few
                  exact .inr (by omega)
              have := BeginR.new hAs hb' a ha ht hm2 he
              by_cases ho : own_ p l = true
              · rw [if_pos ho]
                refine ⟨_, _, _, _, _, _, rfl, ?_⟩
                unfold putM at this
                rw [if_pos ho] at this
                exact this
              · rw [if_neg ho]
                refine ⟨_, _, _, _, _, _, rfl, ?_⟩
                unfold putM at this
                rw [if_neg ho] at this
                exact this
end Go.Proofs.Ytpkaedpgpncgpaa.Mnt
