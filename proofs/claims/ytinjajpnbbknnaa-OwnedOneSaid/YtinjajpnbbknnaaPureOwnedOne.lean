/- OwnedOne, without memory: with a range that is installed, or frozen, a directory has another one only if it is in its Prefix, and in no longer one's. -/
import Derived.Test.YtinjajpnbbknnaaAskOwnedOne
import Derived.Test.YtinjajpnbbknnaaRng1
import Derived.Test.YtinjajpnbbknnaaRng0
namespace Go.Proofs.Ytinjajpnbbknnaa.Pure
open Go Go.RowKit Go.Proofs.Ytinjajpnbbknnaa.Q Go.Proofs.Ytinjajpnbbknnaa.PathF Go.Proofs.Ytinjajpnbbknnaa.Rng Go.Proofs.YtinjajpnbbknnaaW.PrintWords Go.Proofs.YtinjajpnbbknnaaW.PrintLast Go.Proofs.Ytinjajpnbbknnaa.OpensOwnedOne

def longB (p d : ByteArray) (x : S) : Bool := inP d x.f0 && decide (x.f0.size > p.size)
theorem one_loop (l : List S) (hs : ∀ x ∈ l, x.f0.size ≤ 10000) (hl : l.length ≤ 10000) (p d : ByteArray) (hp : p.size ≤ 10000) (hd : d.size ≤ 10000) (up : Bool) (a : List S) (is : Bool) (b : List S) (it : Bool) (kk : Nat) (hkk : 60000 ≤ kk) : ∀ (post pre : List S) (lo : Bool) , l = pre ++ post →
    cantonlaw11_OwnedOne.l0 (kk + post.length + 1) l p d up a is b it lo (pre.length : Int) = cantonlaw11_OwnedOne.j2 kk l p d up a is b it (inP d p && !(lo || post.any (longB p d)))
  | [], pre, lo, he => by
    rw [List.append_nil] at he
    subst he
    rw [List.length_nil, Nat.add_zero, cantonlaw11_OwnedOne.l0, if_neg (by omega), ref_in_is d p hd hp kk (by omega), Option.bind_some]
    by_cases c : inP d p = true
    · rw [if_pos c, c]; simp
    · rw [if_neg c]; simp at c; rw [c]; simp
  | x :: r, pre, lo, he => by
    have hlen : l.length = pre.length + (r.length + 1) := by rw [he]; simp
    have hx : rd l (pre.length : Int) = x := by rw [he]; exact rd_mid pre r x
    have hw : wrap64 ((pre.length : Int) + 1) = (((pre ++ [x]).length : Nat) : Int) := by rw [w64 (by omega) (by omega)]; simp
    have hsx : x.f0.size ≤ 10000 := hs x (by rw [he]; simp)
    have ih := fun lo => one_loop l hs hl p d hp hd up a is b it kk hkk r (pre ++ [x]) lo (by rw [he]; simp)
    rw [show kk + (x :: r).length + 1 = (kk + r.length + 1) + 1 by simp; omega, cantonlaw11_OwnedOne.l0, if_pos (by omega), hw]
    cases lo with
    | true =>
      rw [if_pos rfl, ih true]; simp
    | false =>
      rw [if_neg (by simp), if_pos (by omega)]
      simp only [show rd_T45 l (pre.length : Int) = x from hx, ref_in_is d x.f0 hd hsx _ (show 50000 ≤ kk + r.length + 1 by omega), Option.bind_some]
      by_cases c : inP d x.f0 = true
      · rw [if_pos c, ih]
        congr 1
        rw [List.any_cons]
        unfold longB
        rw [c]
        have : decide ((x.f0.size : Int) > (p.size : Int)) = decide (x.f0.size > p.size) := by congr 1; exact propext ⟨fun h => by omega, fun h => by omega⟩
        rw [this]; simp
      · rw [if_neg c, ih]
        congr 1
        rw [List.any_cons]
        have h1 : longB p d x = false := by unfold longB; simp at c; rw [c]; rfl
        rw [h1]; simp
theorem one3 (kk : Nat) (hkk : 60000 ≤ kk) (l : List S) (hl : l.length ≤ 10000) (p : ByteArray) (a b : List S) (is it : Bool) (ha : is = true → RightM a) (hb : it = true → RightM b) (hs : it = true → staR l p = 1) :
    cantonlaw11_OwnedOne.j4 (kk + 1) l p true a is b it false = some true := by
  rw [cantonlaw11_OwnedOne.j4, if_neg (by simp), if_pos rfl]
  have tail : it = true → ((cantonref11_Right.f kk b).bind fun t458 => (if t458 = true then ((owned_State.f kk l p).bind fun t459 => (some (t459 == 1))) else (some false))) = some true := fun h => by
    rw [ref_right_l b (right_sizes (hb h)) kk hkk, Option.bind_some, if_pos ((right_iff b).2 (hb h)), state_is l (by omega) p kk (by omega), Option.bind_some, hs h]; rfl
  cases is with
  | true =>
    rw [if_pos rfl, ref_right_l a (right_sizes (ha rfl)) kk hkk, Option.bind_some, if_pos ((right_iff a).2 (ha rfl))]
    cases it with
    | true => rw [if_pos rfl]; exact tail rfl
    | false => rw [if_neg (by simp)]
  | false =>
    rw [if_neg (by simp)]
    cases it with
    | true => rw [if_pos rfl]; exact tail rfl
    | false => rw [if_neg (by simp)]
theorem one2 (kk : Nat) (hkk : 60000 ≤ kk) (l : List S) (hl : l.length ≤ 10000) (p d : ByteArray) (a b : List S) (is it ch : Bool) (ha : is = true → RightM a ∧ staR a d = if ch = true then 1 else staR l d) (hb : it = true → RightM b ∧ staR b d = if ch = true then 2 else staR l d) (hs : it = true → staR l p = 1) :
    cantonlaw11_OwnedOne.j2 (kk + 1 + 1 + 1) l p d true a is b it ch = some true := by
  have last := one3 kk hkk l hl p a b is it (fun h => (ha h).1) (fun h => (hb h).1) hs
  have mid : cantonlaw11_OwnedOne.j3 (kk + 1 + 1) l p d true a is b it ch false = some true := by
    rw [cantonlaw11_OwnedOne.j3, if_neg (by simp)]
    cases it with
    | false => rw [if_neg (by simp), last]
    | true =>
      obtain ⟨hR, hst⟩ := hb rfl
      have hf := hR.few
      rw [if_pos rfl, state_is b (by omega) d (kk + 1) (by omega), Option.bind_some]
      cases ch with
      | true =>
        rw [if_pos rfl, hst, if_pos (by rfl), last]
      | false =>
        rw [if_neg (by simp), Option.bind_some, state_is l (by omega) d (kk + 1) (by omega), Option.bind_some, hst]
        simp [last]
  rw [cantonlaw11_OwnedOne.j2]
  cases is with
  | false => rw [if_neg (by simp), mid]
  | true =>
    obtain ⟨hR, hst⟩ := ha rfl
    have hf := hR.few
    rw [if_pos rfl, state_is a (by omega) d (kk + 1 + 1) (by omega), Option.bind_some]
    cases ch with
    | true => rw [if_pos rfl, hst, if_pos (by rfl), mid]
    | false =>
      rw [if_neg (by simp), Option.bind_some, state_is l (by omega) d (kk + 1 + 1) (by omega), Option.bind_some, hst]
      simp [mid]
theorem put_state {l m : List S} {x : S} (h : Put l x m) (hR : RightM l) (d : ByteArray) : staR m d = if (inP d x.f0 && !l.any (longB x.f0 d)) = true then x.f2 else staR l d := by
  unfold staR
  rw [ofR_of h.right, ofR_of hR]
  by_cases c : inP d x.f0 = true ∧ ∀ y ∈ l, inP d y.f0 = true → y.f0.size ≤ x.f0.size
  · rw [h.at_ d c.1 c.2]
    have : l.any (longB x.f0 d) = false := by
      rw [List.any_eq_false]
      intro y hy hlo
      unfold longB at hlo
      simp only [Bool.and_eq_true, decide_eq_true_eq] at hlo
      have := c.2 y hy hlo.1
      omega
    rw [this, c.1, if_pos (show (true && !false) = true from rfl)]
  · rw [h.off d c]
    rw [if_neg]
    intro h2
    simp only [Bool.and_eq_true, Bool.not_eq_true', List.any_eq_false] at h2
    refine c ⟨h2.1, fun y hy hd => ?_⟩
    have := h2.2 y hy
    unfold longB at this
    rw [hd, Bool.true_and, decide_eq_true_eq] at this
    omega
theorem OwnedOne : OpensOwnedOne.Pure := by
  intro l p e d hl hp he hd
  obtain ⟨hl, hl40, hw⟩ := hl
  obtain ⟨K, hK⟩ : ∃ K, K = 2 * l.length + 200000 := ⟨_, rfl⟩
  refine ⟨(K + 3 + l.length + 1) + 1, ?_⟩
  unfold cantonlaw11_OwnedOne.f
  rw [head_is _ (by omega), Option.bind_some]
  obtain ⟨bb, hbb, hsz⟩ := great_is l (by omega) (fun x hx => by have := (hw x hx).1; omega) (K + 3 + l.length + 1 + 1) (by omega)
  rw [hbb, Option.bind_some]
  have stop : cantonlaw11_OwnedOne.j0 (K + 3 + l.length + 1 + 1) l p e d true true = some true := by rw [cantonlaw11_OwnedOne.j0, if_pos rfl]
  by_cases c1 : bb = true
  · rw [if_pos c1, stop]
  · rw [if_neg c1]
    have hs := hsz (by simpa using c1)
    have hs1 : ∀ x ∈ l, x.f0.size ≤ 10000 := fun x hx => by have := hs.2 x hx; omega
    by_cases c2 : (p.size : Int) > 1000
    · rw [if_pos c2, stop]
    · rw [if_neg c2]
      by_cases c3 : (d.size : Int) > 1000
      · rw [if_pos c3, stop]
      · rw [if_neg c3, ref_right_l l hs1 _ (by omega), Option.bind_some]
        by_cases c4 : RightB l = true
        · have hR := (right_iff l).1 c4
          rw [if_pos c4, ref_right_is d (by omega) _ (by omega), Option.bind_some]
          by_cases c5 : isP d = true
          · rw [c5, cantonlaw11_OwnedOne.j0, if_neg (by simp), install_is l (by omega) p e _ (by omega), Option.bind_some, freeze_is l (by omega) p _ (by omega), Option.bind_some]
            have hl2 := hR.few
            have hone := one_loop l hs1 (by omega) p d (by omega) (by omega) true (insR l p e).1 (insR l p e).2 (frzR l p).1 (frzR l p).2 (K + 3) (by omega) l [] false rfl
            rw [show (([] : List S).length : Int) = 0 from rfl] at hone
            rw [hone]
            have hins : (insR l p e).2 = true → isP p = true ∧ ∃ x : S, x = ⟨p, e, 1⟩ ∧ Put l x (insR l p e).1 := by
              unfold insR
              by_cases q : RightB l = true ∧ isP p = true ∧ 0 ≤ e ∧ e ≤ 281474976710656
              · rw [if_pos q]
                have hok : okE ⟨p, e, 1⟩ = true := okR q.2.1 q.2.2.1 q.2.2.2 (by decide)
                have key : (putR l ⟨p, e, 1⟩).2 = true → isP p = true ∧ ∃ x : S, x = ⟨p, e, 1⟩ ∧ Put l x (putR l ⟨p, e, 1⟩).1 := fun h => by
                  rcases putR_cases hR hok with ⟨h1, _⟩ | ⟨h1, h2⟩
                  · rw [h1] at h; cases h
                  · rw [h1]; exact ⟨q.2.1, _, rfl, h2⟩
                cases getO l p with
                | none => exact key
                | some s =>
                  dsimp only
                  by_cases c : s.f1 ≥ e
                  · rw [if_pos c]; intro h; cases h
                  · rw [if_neg c]; exact key
              · rw [if_neg q]; intro h; cases h
            have hfrz : (frzR l p).2 = true → isP p = true ∧ staR l p = 1 ∧ ∃ x : S, x.f0 = p ∧ x.f2 = 2 ∧ Put l x (frzR l p).1 := by
              unfold frzR staR
              cases ho : ofR l p with
              | none => intro h; cases h
              | some s =>
                dsimp only
                by_cases c : s.f2 = 1
                · rw [if_pos c]
                  intro h
                  have hm := ofO_some (ofR_right ho).2
                  have hpp := in_left hm.isin
                  have hsok := (okE_iff s).1 (hR.ok s hm.mem)
                  have hok : okE ⟨p, s.f1, 2⟩ = true := okR hpp hsok.2.1 hsok.2.2.1 (by decide)
                  rcases putR_cases hR hok with ⟨h1, _⟩ | ⟨h1, h2⟩
                  · rw [h1] at h; cases h
                  · rw [h1]; exact ⟨hpp, c, _, rfl, rfl, h2⟩
                · rw [if_neg c]; intro h; cases h
            refine one2 K (by omega) l (by omega) p d _ _ _ _ _ (fun h => ?_) (fun h => ?_) (fun h => (hfrz h).2.1)
            · obtain ⟨_, x, rfl, hP⟩ := hins h
              refine ⟨hP.right, ?_⟩
              rw [put_state hP hR d]; rfl
            · obtain ⟨_, _, x, rfl, hx2, hP⟩ := hfrz h
              refine ⟨hP.right, ?_⟩
              rw [put_state hP hR d, hx2]; rfl
          · have : isP d = false := by simpa using c5
            rw [this]; exact stop
        · rw [if_neg c4, stop]
end Go.Proofs.Ytinjajpnbbknnaa.Pure
