/- OwnedCuts, without memory: both stores of any Cut are the document's; together they are the store. -/
import Derived.Test.YtinjajpnbbknnaaAskOwnedCuts
import Derived.Test.YtinjajpnbbknnaaStrG
import Derived.Test.YtinjajpnbbknnaaRng1
import Derived.Test.YtinjajpnbbknnaaRng0
import Derived.Test.YtinjajpnbbknnaaCut2
import Derived.Test.YtinjajpnbbknnaaQx18
namespace Go.Proofs.Ytinjajpnbbknnaa.Pure
open Go Go.RowKit Go.Proofs.Ytinjajpnbbknnaa.Q Go.Proofs.Ytinjajpnbbknnaa.Rune Go.Proofs.Ytinjajpnbbknnaa.Split Go.Proofs.Ytinjajpnbbknnaa.PathT Go.Proofs.Ytinjajpnbbknnaa.PathF Go.Proofs.Ytinjajpnbbknnaa.Rng Go.Proofs.Ytinjajpnbbknnaa.Str Go.Proofs.Ytinjajpnbbknnaa.Part Go.Proofs.Ytinjajpnbbknnaa.Cut Go.Proofs.Ytinjajpnbbknnaa.Cut2 Go.Proofs.YtinjajpnbbknnaaW.PrintWords Go.Proofs.Ytinjajpnbbknnaa.OpensOwnedCuts

def mineR (l : List S) (p d : ByteArray) : Bool := match ofR l d with | some s => decide (s.f0 = p) | none => false
theorem toL_eq {a b : ByteArray} : (a.toList = b.toList) ↔ a = b := ⟨fun h => L_inj (by rw [← toL, ← toL, h]), fun h => by rw [h]⟩
theorem pick {α : Type} {l : List S} {p d : ByteArray} {y : Int} (h : Rel l y (ofR l d)) (A B : Option α) :
    (if y ≥ 0 then (if 0 ≤ y then (if y < (l.length : Int) then (if ((rd_T45 l y).f0).toList = p.toList then A else B) else none) else none) else B) = if mineR l p d = true then A else B := by
  unfold mineR
  rcases h with ⟨rfl, ho⟩ | ⟨a, rfl, ha, ho⟩
  · rw [if_neg (by decide), ho, if_neg (by simp)]
  · rw [if_pos (by omega), if_pos (by omega), if_pos (by omega), ho]
    show (if (rd l (a : Int)).f0.toList = p.toList then A else B) = if decide ((rd l (a : Int)).f0 = p) = true then A else B
    by_cases c : (rd l (a : Int)).f0 = p
    · rw [if_pos (toL_eq.2 c), if_pos (decide_eq_true c)]
    · rw [if_neg (fun h => c (toL_eq.1 h)), if_neg (by simp [c])]
theorem mine_is (l : List S) (hl : l.length ≤ 1000000) (p d : ByteArray) : mineB (kC l) l p d = mineR l p d := by
  unfold mineB mineR
  obtain ⟨y, hy, hf⟩ := of_is l d (by omega) (kC l) (by unfold kC; omega)
  rw [hf]
  rcases hy with ⟨rfl, ho⟩ | ⟨a, rfl, ha, ho⟩
  · rw [ho]; rfl
  · rw [ho]
    show (decide (0 ≤ (a : Int)) && ((rd l (a : Int)).f0.toList == p.toList)) = decide ((rd l (a : Int)).f0 = p)
    rw [decide_eq_true (by omega), Bool.true_and]
    rw [Bool.eq_iff_iff, beq_iff_eq, decide_eq_true_eq]
    exact toL_eq
theorem home_is (k : Nat) (hk : 100 ≤ k) (q : ByteArray) : homeK k q = homeP q := by
  unfold homeK
  rw [parent_is q k hk, ← home_of q]
  cases h : parP q with
  | mk a b =>
    cases b with
    | true => rfl
    | false => rfl
def pnB (l : List S) (p : ByteArray) (x : N) : Bool := mineR l p (homeP x.f0)
def ptB (l : List S) (p : ByteArray) (x : T) : Bool := mineR l p x.f0
def cutR (n : List N) (t : List T) (l : List S) (p : ByteArray) : List N × List T × List N × List T :=
  if storeB n t = true ∧ RightB l = true then (n.filter (pnB l p), t.filter (ptB l p), n.filter (fun x => !pnB l p x), t.filter (fun x => !ptB l p x)) else ([], [], [], [])
theorem cut_is (n : List N) (t : List T) (l : List S) (p : ByteArray) (hn : n.length ≤ 100000) (ht : t.length ≤ 100000) (hl : l.length ≤ 100000) : owned_Cut.f n t l p = some (cutR n t l p) := by
  unfold owned_Cut.f cutR
  rw [if_pos (by omega)]
  by_cases c1 : storeB n t = true
  · rw [if_pos c1]
    by_cases c2 : RightB l = true
    · have hall : n.all (fun x => (path_Parent.f (kC l) x.f0).isSome) = true := by
        rw [List.all_eq_true]
        intro x hx
        rw [parent_is x.f0 (kC l) (by unfold kC; omega)]; rfl
      rw [if_pos c2, if_pos hall, if_pos (show storeB n t = true ∧ RightB l = true from ⟨c1, c2⟩)]
      have e1 : (fun x : N => mineB (kC l) l p (homeK (kC l) x.f0)) = pnB l p := funext fun x => by
        rw [mine_is l (by omega), home_is (kC l) (by unfold kC; omega)]; rfl
      have e2 : (fun x : T => mineB (kC l) l p x.f0) = ptB l p := funext fun x => by
        rw [mine_is l (by omega)]; rfl
      have e3 : (fun x : N => !mineB (kC l) l p (homeK (kC l) x.f0)) = fun x => !pnB l p x := funext fun x => by
        rw [mine_is l (by omega), home_is (kC l) (by unfold kC; omega)]; rfl
      have e4 : (fun x : T => !mineB (kC l) l p x.f0) = fun x => !ptB l p x := funext fun x => by
        rw [mine_is l (by omega)]; rfl
      rw [e1, e2, e3, e4]
    · rw [if_neg c2, if_neg (fun h => c2 h.2)]
  · rw [if_neg c1, if_neg (fun h => c1 h.1)]
section
variable (l : List S) (hs : ∀ x ∈ l, x.f0.size ≤ 10000) (p : ByteArray)
include hs
theorem cutT_loop (n : List N) (t : List T) (ht : t.length ≤ 100000) (hst : ∀ x ∈ t, x.f0.size ≤ 10000) (a0 b0 : List N) : ∀ (post pre : List T) (k : Nat) (a b : List T), t = pre ++ post → post.length + 60000 < k → a.length + b.length ≤ pre.length →
    cantonref11_Cut.l1 k l p (pre.length : Int) n t a0 a b0 b = some (a0, a ++ post.filter (ptB l p), b0, b ++ post.filter (fun x => !ptB l p x))
  | post, pre, 0, a, b, _, h, _ => absurd h (by omega)
  | [], pre, k + 1, a, b, he, hk, hab => by
    rw [List.append_nil] at he
    subst he
    rw [cantonref11_Cut.l1, if_neg (by omega)]; simp
  | x :: r, pre, k + 1, a, b, he, hk, hab => by
    have hlen : t.length = pre.length + (r.length + 1) := by rw [he]; simp
    have hx : rd_T59 t (pre.length : Int) = x := by rw [he]; exact rdT_mid pre r x
    have hw : wrap64 ((pre.length : Int) + 1) = (((pre ++ [x]).length : Nat) : Int) := by rw [w64 (by omega) (by omega)]; simp
    have hsx : x.f0.size ≤ 10000 := hst x (by rw [he]; simp)
    simp only [List.length_cons] at hk
    have ih := fun a b h => cutT_loop n t ht hst a0 b0 r (pre ++ [x]) k a b (by rw [he]; simp) (by omega) h
    obtain ⟨y, hy, hf⟩ := ref_of l hs x.f0 hsx k (by omega)
    rw [cantonref11_Cut.l1, if_pos (by omega), if_pos (by omega)]
    simp only [hx]
    rw [hf, Option.bind_some, pick hy, hw]
    rw [List.filter_cons, List.filter_cons]
    by_cases c : mineR l p x.f0 = true
    · have c' : ptB l p x = true := c
      rw [if_pos c, if_pos (by omega), if_pos c', if_neg (by rw [c']; simp)]
      refine (ih (a ++ [x]) b (by simp; omega)).trans ?_
      simp
    · have c' : ptB l p x = false := Bool.eq_false_iff.mpr c
      rw [if_neg c, if_pos (by omega), if_neg (by rw [c']; simp), if_pos (by rw [c']; rfl)]
      refine (ih a (b ++ [x]) (by simp; omega)).trans ?_
      simp
theorem cutN_loop (n : List N) (t : List T) (hn : n.length ≤ 100000) (hsn : ∀ x ∈ n, x.f0.size ≤ 10000 ∧ (homeP x.f0).size ≤ 10000) (ht : t.length ≤ 100000) (hst : ∀ x ∈ t, x.f0.size ≤ 10000) : ∀ (post pre : List N) (k : Nat) (a b : List N), n = pre ++ post → post.length + t.length + 60002 < k → a.length + b.length ≤ pre.length →
    cantonref11_Cut.l0 k l p (pre.length : Int) n t a b = some (a ++ post.filter (pnB l p), t.filter (ptB l p), b ++ post.filter (fun x => !pnB l p x), t.filter (fun x => !ptB l p x))
  | post, pre, 0, a, b, _, h, _ => absurd h (by omega)
  | [], pre, k + 1, a, b, he, hk, hab => by
    rw [List.append_nil] at he
    subst he
    simp only [List.length_nil] at hk
    have := cutT_loop l hs p n t ht hst a b t [] k [] [] rfl (by omega) (by simp)
    rw [List.nil_append, List.nil_append] at this
    rw [cantonref11_Cut.l0, if_neg (by omega)]
    refine Eq.trans this ?_
    simp
  | x :: r, pre, k + 1, a, b, he, hk, hab => by
    have hlen : n.length = pre.length + (r.length + 1) := by rw [he]; simp
    have hx : rd_T40 n (pre.length : Int) = x := by rw [he]; exact rdN_mid pre r x
    have hw : wrap64 ((pre.length : Int) + 1) = (((pre ++ [x]).length : Nat) : Int) := by rw [w64 (by omega) (by omega)]; simp
    have hsx := hsn x (by rw [he]; simp)
    simp only [List.length_cons] at hk
    have ih := fun a b h => cutN_loop n t hn hsn ht hst r (pre ++ [x]) k a b (by rw [he]; simp) (by omega) h
    obtain ⟨y, hy, hf⟩ := ref_of l hs (homeP x.f0) hsx.2 k (by omega)
    rw [cantonref11_Cut.l0, if_pos (by omega), if_pos (by omega)]
    simp only [hx]
    rw [ref_home x.f0 hsx.1 k (by omega), Option.bind_some, hf, Option.bind_some, pick hy, hw]
    rw [List.filter_cons, List.filter_cons]
    by_cases c : mineR l p (homeP x.f0) = true
    · have c' : pnB l p x = true := c
      rw [if_pos c, if_pos (by omega), if_pos c', if_neg (by rw [c']; simp)]
      refine (ih (a ++ [x]) b (by simp; omega)).trans ?_
      simp
    · have c' : pnB l p x = false := Bool.eq_false_iff.mpr c
      rw [if_neg c, if_pos (by omega), if_neg (by rw [c']; simp), if_pos (by rw [c']; rfl)]
      refine (ih a (b ++ [x]) (by simp; omega)).trans ?_
      simp
end
theorem homeP_size (q : ByteArray) : (homeP q).size ≤ 10000 := by
  unfold homeP
  rcases path_cases q with h | ⟨ls, h, hq⟩
  · rw [h]; decide
  · rw [hq, split_text h]
    show (B (text ls.dropLast)).size ≤ 10000
    have h2 : OKs ls.dropLast := ⟨by have := h.1; simp; omega, fun s hs => h.2 s (List.dropLast_subset _ hs)⟩
    have := text_len h2
    rw [← L_len, L_B]
    omega
theorem refcut_is (n : List N) (t : List T) (l : List S) (hs : ∀ x ∈ l, x.f0.size ≤ 10000) (p : ByteArray) (hn : n.length ≤ 50000) (hsn : ∀ x ∈ n, x.f0.size ≤ 10000) (ht : t.length ≤ 50000) (hst : ∀ x ∈ t, x.f0.size ≤ 10000) (k : Nat) (hk : n.length + t.length + 60005 < k) :
    cantonref11_Cut.f k n t l p = some (cutR n t l p) := by
  obtain ⟨k, rfl⟩ : ∃ m, k = m + 1 := ⟨k - 1, by omega⟩
  unfold cantonref11_Cut.f cutR
  rw [ref_store n t (by omega) hsn (by omega) hst (k + 1) (by omega), Option.bind_some]
  have stop : cantonref11_Cut.j0 (k + 1) l p true n t = some ([], [], [], []) := by rw [cantonref11_Cut.j0, if_pos rfl]
  by_cases c1 : storeB n t = true
  · rw [if_pos c1, ref_right_l l hs (k + 1) (by omega), Option.bind_some]
    by_cases c2 : RightB l = true
    · rw [c2, if_pos ⟨c1, rfl⟩, Bool.not_true, cantonref11_Cut.j0, if_neg (by simp)]
      have := cutN_loop l hs p n t (by omega) (fun x hx => ⟨hsn x hx, homeP_size _⟩) (by omega) hst n [] k [] [] rfl (by omega) (by simp)
      rw [List.nil_append, List.nil_append] at this
      exact this
    · have c2' : RightB l = false := by simpa using c2
      rw [c2', if_neg (fun h => by cases h.2)]; exact stop
  · rw [if_neg c1, stop, if_neg (fun h => c1 h.1)]
theorem filter_two {α : Type} (q : α → Bool) (l : List α) : (l.filter q).length + (l.filter fun x => !q x).length = l.length := by
  induction l with
  | nil => rfl
  | cons x r ih =>
    rw [List.filter_cons, List.filter_cons]
    cases q x with
    | true => rw [if_pos rfl, if_neg (by simp)]; simp; omega
    | false => rw [if_neg (by simp), if_pos (by rfl)]; simp; omega
theorem eq_same (x : N) : (((x.f0).toList) == ((x.f0).toList) && (((x.f1).toList) == ((x.f1).toList) && ((x.f2) == (x.f2) && ((x.f3) == (x.f3) && ((x.f4) == (x.f4)))))) = true := by simp
theorem eq_other {x y : N} (h : x.f0 ≠ y.f0) : (((x.f0).toList) == ((y.f0).toList) && (((x.f1).toList) == ((y.f1).toList) && ((x.f2) == (y.f2) && ((x.f3) == (y.f3) && ((x.f4) == (y.f4)))))) = false := by
  have : ((x.f0).toList == (y.f0).toList) = false := beq_eq_false_iff_ne.2 (fun e => h (toL_eq.1 e))
  rw [this]; rfl
/-- each node is in one of the two -/
theorem merge (q : N → Bool) (n a b : List N) (t ta tb : List T) (hn : n.length ≤ 50000) (hu : n.Pairwise LessN) (ha : a.length ≤ 50000) (hb : b.length ≤ 50000) (fin : ∀ k, 60000 < k → cantonlaw11_OwnedCuts.l0 k true (a.length : Int) (b.length : Int) (n.length : Int) n t a ta b tb = some true) :
    ∀ (post pre A B : List N) (k : Nat), n = pre ++ post → a = A ++ post.filter q → b = B ++ post.filter (fun x => !q x) → 2 * post.length + 60000 < k →
    cantonlaw11_OwnedCuts.l0 k true (A.length : Int) (B.length : Int) (pre.length : Int) n t a ta b tb = some true
  | post, pre, A, B, 0, _, _, _, h => absurd h (by omega)
  | [], pre, A, B, k + 1, he, hea, heb, hk => by
    rw [List.append_nil] at he
    rw [List.filter_nil, List.append_nil] at hea heb
    rw [← he, ← hea, ← heb]
    exact fin (k + 1) (by omega)
  | x :: r, pre, A, B, k + 1, he, hea, heb, hk => by
    have hlen : n.length = pre.length + (r.length + 1) := by rw [he]; simp
    have hx : rd_T40 n (pre.length : Int) = x := by rw [he]; exact rdN_mid pre r x
    simp only [List.length_cons] at hk
    obtain ⟨k, rfl⟩ : ∃ m, k = m + 1 := ⟨k - 1, by omega⟩
    have hxr : ∀ y ∈ r, x.f0 ≠ y.f0 := fun y hy => by
      rw [he] at hu
      exact lessB_ne ((List.pairwise_cons.1 (List.pairwise_append.1 hu).2.1).1 y hy)
    rw [List.filter_cons] at hea heb
    cases hq : q x with
    | true =>
      rw [hq, if_pos rfl] at hea
      rw [hq, if_neg (by simp)] at heb
      have hla : a.length = A.length + ((r.filter q).length + 1) := by rw [hea]; simp
      have hxa : rd_T40 a (A.length : Int) = x := by rw [hea]; exact rdN_mid A (r.filter q) x
      have ih := merge q n a b t ta tb hn hu ha hb fin r (pre ++ [x]) (A ++ [x]) B k (by rw [he]; simp) (by rw [hea]; simp) heb (by omega)
      have hw1 : wrap64 ((A.length : Int) + 1) = (((A ++ [x]).length : Nat) : Int) := by rw [w64 (by omega) (by omega)]; simp
      have hw2 : wrap64 ((pre.length : Int) + 1) = (((pre ++ [x]).length : Nat) : Int) := by rw [w64 (by omega) (by omega)]; simp
      rw [cantonlaw11_OwnedCuts.l0, if_pos (by omega), if_pos (by omega), if_pos (by omega), if_pos (by omega), hx, hxa, eq_same, cantonlaw11_OwnedCuts.j4, if_pos rfl, hw1, hw2]
      exact ih
    | false =>
      rw [hq, if_neg (by simp)] at hea
      rw [hq, if_pos (by rfl)] at heb
      have hlb : b.length = B.length + ((r.filter fun x => !q x).length + 1) := by rw [heb]; simp
      have hxb : rd_T40 b (B.length : Int) = x := by rw [heb]; exact rdN_mid B (r.filter fun x => !q x) x
      have ih := merge q n a b t ta tb hn hu ha hb fin r (pre ++ [x]) A (B ++ [x]) k (by rw [he]; simp) hea (by rw [heb]; simp) (by omega)
      have hw1 : wrap64 ((B.length : Int) + 1) = (((B ++ [x]).length : Nat) : Int) := by rw [w64 (by omega) (by omega)]; simp
      have hw2 : wrap64 ((pre.length : Int) + 1) = (((pre ++ [x]).length : Nat) : Int) := by rw [w64 (by omega) (by omega)]; simp
      have next : cantonlaw11_OwnedCuts.j4 (k + 1) true (A.length : Int) (B.length : Int) (pre.length : Int) false n t a ta b tb = some true := by
        rw [cantonlaw11_OwnedCuts.j4, if_neg (by simp), if_pos (by omega), if_pos (by omega), if_pos (by omega), if_pos (by omega), hx, hxb, eq_same, if_pos rfl, hw1, hw2]
        exact ih
      rw [cantonlaw11_OwnedCuts.l0, if_pos (by omega)]
      cases hr : r.filter q with
      | nil =>
        rw [hr, List.append_nil] at hea
        rw [if_neg (by rw [hea]; omega)]
        exact next
      | cons y r' =>
        rw [hr] at hea
        have hla : a.length = A.length + (r'.length + 1) := by rw [hea]; simp
        have hya : rd_T40 a (A.length : Int) = y := by rw [hea]; exact rdN_mid A r' y
        have hyr : y ∈ r := (List.mem_filter.1 (by rw [hr]; simp : y ∈ r.filter q)).1
        rw [if_pos (by omega), if_pos (by omega), if_pos (by omega), hx, hya, eq_other (fun e => hxr y hyr e.symm)]
        exact next
theorem OwnedCuts : OpensOwnedCuts.Pure := by
  intro s l p hs hl hp
  obtain ⟨n, t⟩ := s
  obtain ⟨⟨hn, hn56, hwn⟩, ht, ht24, hwt⟩ := hs
  obtain ⟨hl, hl32, hw⟩ := hl
  show ∃ k, cantonlaw11_OwnedCuts.f k n t l p = some true
  have hn' : n.length ≤ 100000000000000 := by have : n.length * 56 ≤ 140737488351232 := hn56; omega
  have ht' : t.length ≤ 100000000000000 := by have : t.length * 24 ≤ 140737488351232 := ht24; omega
  obtain ⟨K, hK⟩ : ∃ K, K = 2 * n.length + 2 * t.length + 2 * l.length + 200000 := ⟨_, rfl⟩
  refine ⟨K + 1 + 1 + 1, ?_⟩
  unfold cantonlaw11_OwnedCuts.f
  rw [head_is _ (by omega), Option.bind_some]
  obtain ⟨bb, hbb, hsz⟩ := great_is l (by omega) (fun x hx => by have := (hw x hx).1; omega) (K + 1 + 1 + 1) (by omega)
  rw [hbb, Option.bind_some]
  have stop : cantonlaw11_OwnedCuts.j0 (K + 1 + 1 + 1) l p true true n t = some true := by rw [cantonlaw11_OwnedCuts.j0, if_pos rfl]
  by_cases c1 : bb = true
  · rw [if_pos c1, stop]
  · rw [if_neg c1]
    have hs := hsz (by simpa using c1)
    have hs1 : ∀ x ∈ l, x.f0.size ≤ 10000 := fun x hx => by have := hs.2 x hx; omega
    obtain ⟨b7, hb7, hz7⟩ := great7_is n t hn' (fun x hx => ⟨(hwn x hx).1, (hwn x hx).2.1⟩) ht' (fun x hx => (hwt x hx).1) (K + 1 + 1 + 1) (by omega)
    rw [hb7, Option.bind_some]
    by_cases c2 : b7 = true
    · rw [if_pos c2, stop]
    · rw [if_neg c2]
      obtain ⟨⟨ht3, hts⟩, hn2, hns⟩ := hz7 (by simpa using c2)
      have hns1 : ∀ x ∈ n, x.f0.size ≤ 10000 := fun x hx => by have := hns x hx; omega
      have hts1 : ∀ x ∈ t, x.f0.size ≤ 10000 := fun x hx => by have := hts x hx; omega
      by_cases c3 : (p.size : Int) > 3000
      · rw [decide_eq_true c3, stop]
      · rw [decide_eq_false c3, cantonlaw11_OwnedCuts.j0, if_neg (by simp), cut_is n t l p (by omega) (by omega) (by omega), Option.bind_some, refcut_is n t l hs1 p (by omega) hns1 (by omega) hts1 _ (by omega), Option.bind_some]
        have hlens : (cutR n t l p).1.length ≤ n.length ∧ (cutR n t l p).2.1.length ≤ t.length ∧ (cutR n t l p).2.2.1.length ≤ n.length ∧ (cutR n t l p).2.2.2.length ≤ t.length := by
          unfold cutR
          by_cases c : storeB n t = true ∧ RightB l = true
          · rw [if_pos c]
            exact ⟨List.length_filter_le _ _, List.length_filter_le _ _, List.length_filter_le _ _, List.length_filter_le _ _⟩
          · rw [if_neg c]; simp
        rw [same_store _ _ (by omega) (by omega) _ (by omega), Option.bind_some, if_pos rfl, same_store _ _ (by omega) (by omega) _ (by omega), Option.bind_some]
        show cantonlaw11_OwnedCuts.j1 (K + 1 + 1) l true false n t _ _ _ _ = some true
        rw [cantonlaw11_OwnedCuts.j1, if_neg (by simp), ref_store n t (by omega) hns1 (by omega) hts1 _ (by omega), Option.bind_some]
        by_cases c4 : storeB n t = true ∧ RightB l = true
        · have hcut : cutR n t l p = (n.filter (pnB l p), t.filter (ptB l p), n.filter (fun x => !pnB l p x), t.filter (fun x => !ptB l p x)) := by unfold cutR; rw [if_pos c4]
          rw [hcut, if_pos c4.1, ref_right_l l hs1 _ (by omega), Option.bind_some, c4.2]
          show cantonlaw11_OwnedCuts.j2 (K + 1) true false n t _ _ _ _ = some true
          rw [cantonlaw11_OwnedCuts.j2, if_neg (by simp)]
          have hM := (store_iff n t).1 c4.1
          have hna : (n.filter (pnB l p)).length ≤ n.length := List.length_filter_le _ _
          have hnb : (n.filter (fun x => !pnB l p x)).length ≤ n.length := List.length_filter_le _ _
          have hta : (t.filter (ptB l p)).length ≤ t.length := List.length_filter_le _ _
          have htb : (t.filter (fun x => !ptB l p x)).length ≤ t.length := List.length_filter_le _ _
          have hsum := filter_two (ptB l p) t
          refine merge (pnB l p) n (n.filter (pnB l p)) (n.filter (fun x => !pnB l p x)) t (t.filter (ptB l p)) (t.filter (fun x => !ptB l p x)) (by omega) hM.upN (by omega) (by omega) (fun k hk => ?_) n [] [] [] K rfl rfl rfl (by omega)
          obtain ⟨k, rfl⟩ : ∃ m, k = m + 1 := ⟨k - 1, by omega⟩
          have hra : storeB (n.filter (pnB l p)) (t.filter (ptB l p)) = true := (store_iff _ _).2 (hM.filter _ _)
          have hrb : storeB (n.filter (fun x => !pnB l p x)) (t.filter (fun x => !ptB l p x)) = true := (store_iff _ _).2 (hM.filter _ _)
          have f1 := ref_store (n.filter (pnB l p)) (t.filter (ptB l p)) (by omega) (fun x hx => hns1 x (List.mem_filter.1 hx).1) (by omega) (fun x hx => hts1 x (List.mem_filter.1 hx).1) k (by omega)
          have f2 := ref_store (n.filter (fun x => !pnB l p x)) (t.filter (fun x => !ptB l p x)) (by omega) (fun x hx => hns1 x (List.mem_filter.1 hx).1) (by omega) (fun x hx => hts1 x (List.mem_filter.1 hx).1) k (by omega)
          have hsum' : wrap64 (((t.filter (ptB l p)).length : Int) + ((t.filter (fun x => !ptB l p x)).length : Int)) = (t.length : Int) := by rw [w64 (by omega) (by omega)]; omega
          rw [cantonlaw11_OwnedCuts.l0, if_neg (Int.lt_irrefl _), if_pos rfl, if_pos rfl, if_pos rfl, if_pos hsum', f1, Option.bind_some, hra, if_pos rfl, f2, Option.bind_some, hrb]
        · have hcut : cutR n t l p = ([], [], [], []) := by unfold cutR; rw [if_neg c4]
          rw [hcut]
          have fin : cantonlaw11_OwnedCuts.j2 (K + 1) true true n t [] [] [] [] = some true := by
            rw [cantonlaw11_OwnedCuts.j2, if_pos rfl, if_pos rfl]
            simp [w64]
          by_cases c5 : storeB n t = true
          · rw [if_pos c5, ref_right_l l hs1 _ (by omega), Option.bind_some]
            have c6 : RightB l = false := by simpa using fun h => c4 ⟨c5, h⟩
            rw [c6]; exact fin
          · rw [if_neg c5]; exact fin
end Go.Proofs.Ytinjajpnbbknnaa.Pure
