/- Several parts in memory, each with blocks of its own: what a step of one of them does. -/
import Derived.Test.YtndnjmgmdkkifaaVw16
namespace Go.Proofs.Ytndnjmgmdkkifaa.Vw1
open Go Go.RowKit Go.Maps Go.Proofs Go.Proofs.Ytndnjmgmdkkifaa.New Go.Proofs.Ytndnjmgmdkkifaa.Vw Go.Proofs.Ytndnjmgmdkkifaa.Vw0 Go.Proofs.YtndnjmgmdkkifaaW.PrintWords Go.Proofs.YtndnjmgmdkkifaaW.PrintLast Go.Proofs.YtndnjmgmdkkifaaW.PrintMore
set_option linter.unusedVariables false
set_option linter.unusedSimpArgs false

def upd {α : Type} (f : Nat → α) (i : Nat) (x : α) : Nat → α := fun k => if k = i then x else f k
theorem upd_same {α : Type} (f : Nat → α) (i : Nat) (x : α) : upd f i x i = x := if_pos rfl
theorem upd_other {α : Type} (f : Nat → α) {i k : Nat} (x : α) (h : k ≠ i) : upd f i x k = f k := if_neg h
/-- n parts; `own` tells whose a block is -/
def Parts (B : Nat) (w : World) (n : Nat) (p : Nat → Nat) (s : Nat → V) : Prop :=
  ∃ own : Nat → Nat, ∀ i, i < n → OkV (s i) ∧ B ≤ p i ∧ own (p i) = i ∧ ∃ am cm, VRep w (p i) am cm (s i) ∧ B ≤ am ∧ B ≤ cm ∧ own am = i ∧ own cm = i
theorem Parts.none (B : Nat) (w : World) (p : Nat → Nat) (s : Nat → V) : Parts B w 0 p s := ⟨fun _ => 0, fun i h => absurd h (by omega)⟩
theorem Parts.pt {B : Nat} {w : World} {n : Nat} {p : Nat → Nat} {s : Nat → V} (h : Parts B w n p s) {i : Nat} (hi : i < n) : Pt B w (p i) (s i) := by
  obtain ⟨own, h⟩ := h
  obtain ⟨o, b, _, am, cm, hv, ha, hc, _⟩ := h i hi
  exact ⟨o, b, am, cm, hv, ha, hc⟩
theorem Parts.below {B : Nat} {w w' : World} {n : Nat} {p : Nat → Nat} {s : Nat → V} (h : Parts B w n p s) (hb : Below w.heap.size w w') : Parts B w' n p s := by
  obtain ⟨own, h⟩ := h
  exact ⟨own, fun i hi => by
    obtain ⟨o, b, e, am, cm, hv, r⟩ := h i hi
    exact ⟨o, b, e, am, cm, hv.below hb, r⟩⟩
theorem Parts.ne {B : Nat} {w : World} {n : Nat} {p : Nat → Nat} {s : Nat → V} (h : Parts B w n p s) {i j : Nat} (hi : i < n) (hj : j < n) (e : i ≠ j) : p i ≠ p j := by
  obtain ⟨own, h⟩ := h
  have h1 := (h i hi).2.2.1
  have h2 := (h j hj).2.2.1
  exact fun q => by rw [q] at h1; exact e (h1.symm.trans h2)
/-- one part's step -/
theorem Parts.mv {B : Nat} {w w' : World} {n : Nat} {p : Nat → Nat} {s : Nat → V} {i : Nat} {s' : V} (h : Parts B w n p s) (hi : i < n) (hB : B ≤ w.heap.size)
    (hm : ∀ am cm, VRep w (p i) am cm (s i) → Mv w w' (p i) am cm s') (o : OkV s') : Parts B w' n p (upd s i s') := by
  obtain ⟨own, h⟩ := h
  obtain ⟨_, b, e, am, cm, hv, ha, hc, oa, oc⟩ := h i hi
  obtain ⟨am', cm', hv', hf, ha', hc'⟩ := hm am cm hv
  refine ⟨fun k => if w.heap.size ≤ k then i else own k, fun j hj => ?_⟩
  by_cases c : j = i
  · subst c
    rw [upd_same]
    have key : ∀ x y, (x = y ∨ w.heap.size ≤ x) → own y = j → B ≤ y → B ≤ x ∧ (if w.heap.size ≤ x then j else own x) = j := fun x y hx hy hby => by
      rcases hx with rfl | hx
      · exact ⟨hby, by split <;> first | rfl | exact hy⟩
      · exact ⟨by omega, if_pos hx⟩
    have k1 := key am' am ha' oa ha
    have k2 := key cm' cm hc' oc hc
    exact ⟨o, b, by dsimp only; split <;> first | rfl | exact e, am', cm', hv', k1.1, k2.1, k1.2, k2.2⟩
  · rw [upd_other _ _ c]
    obtain ⟨o2, b2, e2, am2, cm2, hv2, ha2, hc2, oa2, oc2⟩ := h j hj
    have l2 := hv2.lt
    have go : ∀ k, k < w.heap.size → (if w.heap.size ≤ k then i else own k) = own k := fun k hk => if_neg (by omega)
    refine ⟨o2, b2, by dsimp only; rw [go _ l2.1]; exact e2, am2, cm2, hv2.other hv hf (fun k hk => ?_), ha2, hc2, by dsimp only; rw [go _ l2.2.1]; exact oa2, by dsimp only; rw [go _ l2.2.2]; exact oc2⟩
    have hk2 : own k = j := by rcases hk with rfl | rfl | rfl <;> assumption
    exact ⟨fun q => by subst q; exact c (hk2.symm.trans e), fun q => by subst q; exact c (hk2.symm.trans oa), fun q => by subst q; exact c (hk2.symm.trans oc)⟩
section
variable {B : Nat} {W : World} {n : Nat} {p : Nat → Nat} {s : Nat → V} {i q : Nat}
theorem parts_size (h : Parts B W n p s) (hi : i < n) : B ≤ W.heap.size := pt_size (h.pt hi)
theorem Parts.fr (h : Parts B W n p s) (hi : i < n) {w' : World} (hm : ∀ am cm, VRep W (p i) am cm (s i) → Fr W w' (p i) am cm) : Stp B (p i) W w' := by
  have hz := parts_size h hi
  obtain ⟨own, h⟩ := h
  obtain ⟨_, b, e, am, cm, hv, ha, hc, oa, oc⟩ := h i hi
  exact Stp.of_fr hv (hm am cm hv) b ha hc hz
/-- what a method's contract says, as several parts see it -/
theorem parts_of {f : Nat} {args : Array Value} {r : Value} {s' : V} (h : Parts B W n p s) (hi : i < n) (hq : p i = q) (o : OkV s')
    (hc : ∀ am cm, VRep W q am cm (s i) → B ≤ q → B ≤ am → B ≤ cm → Calls Try.prog f args W fun e w' => e = .returned r ∧ Mv W w' q am cm s') :
    Calls Try.prog f args W fun e w' => e = .returned r ∧ Parts B w' n p (upd s i s') ∧ Stp B q W w' := by
  subst hq
  have hz := parts_size h hi
  obtain ⟨own, hh⟩ := id h
  obtain ⟨o0, b0, e0, am0, cm0, hv0, ha0, hc0, oa0, oc0⟩ := hh i hi
  refine (hc am0 cm0 hv0 b0 ha0 hc0).mono fun e w' ⟨h1, hm⟩ => ⟨h1, ?_, ?_⟩
  · refine Parts.mv (s := s) ?_ hi hz ?_ o
    · exact h
    · intro am cm hv
      obtain ⟨A1, c1, k1, _⟩ := hv.blk
      obtain ⟨A2, c2, k2, _⟩ := hv0.blk
      have k3 := k1.symm.trans k2
      simp at k3
      obtain ⟨_, rfl, rfl⟩ := k3
      exact hm
  · obtain ⟨am', cm', hv', hf, ha', hc'⟩ := hm
    exact Stp.of_fr hv0 hf b0 ha0 hc0 hz
theorem parts_propose (h : Parts B W n p s) (hi : i < n) (hq : p i = q) (en : ByteArray) (he : en.size ≤ 140737488355328) :
    Calls Try.prog 14 #[.pointer (some ⟨q, 0, none⟩), .string en] W fun e w' => e = .returned (.bool ((s i).propose en).2) ∧ Parts B w' n p (upd s i ((s i).propose en).1) ∧ Stp B q W w' :=
  parts_of h hi hq (okv_propose (h.pt hi).ok en) fun am cm hv _ _ _ => Propose_calls hv (h.pt hi).ok en he
theorem parts_turn (h : Parts B W n p s) (hi : i < n) (hq : p i = q) :
    Calls Try.prog 16 #[.pointer (some ⟨q, 0, none⟩)] W fun e w' => e = .returned (.bool (s i).turn.2) ∧ Parts B w' n p (upd s i (s i).turn.1) ∧ Stp B q W w' :=
  parts_of h hi hq (okv_turn (h.pt hi).ok) fun am cm hv _ _ _ => Turn_calls hv (h.pt hi).ok
theorem parts_take (h : Parts B W n p s) (hi : i < n) (hq : p i = q) (fr : Int) (l : Ltr) (A : Option Addr) (c : Nat) (hrd : Far B W A l.log) (hl : l.log.length ≤ 1000000) (hs : ∀ z ∈ l.log, z.size ≤ 140737488355328) :
    Calls Try.prog 18 #[.pointer (some ⟨q, 0, none⟩), .int .i64 fr, ltrV l A c] W fun e w' => e = .returned (.bool ((s i).take fr l).2) ∧ Parts B w' n p (upd s i ((s i).take fr l).1) ∧ Stp B q W w' :=
  parts_of h hi hq (okv_take (h.pt hi).ok fr l) fun am cm hv b ha hcm => Take_calls hv (h.pt hi).ok fr l A c (hrd.lg hv b ha hcm) hl hs
/-- a part more -/
theorem parts_add (h : Parts B W n p s) (hB : B ≤ W.heap.size) {w' : World} {t : V} {q : Nat} (hb : Below W.heap.size W w') (ht : Pt W.heap.size w' q t) : Parts B w' (n + 1) (upd p n q) (upd s n t) := by
  obtain ⟨own, h⟩ := h
  obtain ⟨o, b, am, cm, hv, ha, hc⟩ := ht
  refine ⟨fun k => if W.heap.size ≤ k then n else own k, fun j hj => ?_⟩
  by_cases c : j = n
  · subst c
    rw [upd_same, upd_same]
    exact ⟨o, by omega, if_pos b, am, cm, hv, by omega, by omega, if_pos ha, if_pos hc⟩
  · rw [upd_other _ _ c, upd_other _ _ c]
    obtain ⟨o2, b2, e2, am2, cm2, hv2, ha2, hc2, oa2, oc2⟩ := h j (by omega)
    have l2 := hv2.lt
    have go : ∀ k, k < W.heap.size → (if W.heap.size ≤ k then n else own k) = own k := fun k hk => if_neg (by omega)
    exact ⟨o2, b2, by dsimp only; rw [go _ l2.1]; exact e2, am2, cm2, hv2.below hb, ha2, hc2, by dsimp only; rw [go _ l2.2.1]; exact oa2, by dsimp only; rw [go _ l2.2.2]; exact oc2⟩
/-- a part in another one's place -/
theorem parts_put (h : Parts B W n p s) (hi : i < n) (hB : B ≤ W.heap.size) {w' : World} {t : V} {q : Nat} (hb : Below W.heap.size W w') (ht : Pt W.heap.size w' q t) : Parts B w' n (upd p i q) (upd s i t) := by
  obtain ⟨own, h⟩ := h
  obtain ⟨o, b, am, cm, hv, ha, hc⟩ := ht
  refine ⟨fun k => if W.heap.size ≤ k then i else own k, fun j hj => ?_⟩
  by_cases c : j = i
  · subst c
    rw [upd_same, upd_same]
    exact ⟨o, by omega, if_pos b, am, cm, hv, by omega, by omega, if_pos ha, if_pos hc⟩
  · rw [upd_other _ _ c, upd_other _ _ c]
    obtain ⟨o2, b2, e2, am2, cm2, hv2, ha2, hc2, oa2, oc2⟩ := h j hj
    have l2 := hv2.lt
    have go : ∀ k, k < W.heap.size → (if W.heap.size ≤ k then i else own k) = own k := fun k hk => if_neg (by omega)
    exact ⟨o2, b2, by dsimp only; rw [go _ l2.1]; exact e2, am2, cm2, hv2.below hb, ha2, hc2, by dsimp only; rw [go _ l2.2.1]; exact oa2, by dsimp only; rw [go _ l2.2.2]; exact oc2⟩
end
end Go.Proofs.Ytndnjmgmdkkifaa.Vw1
