/- A disk in memory: the walks of Read, New, Of. -/
import Derived.Test.YtnobhjpobnmiaaaDoorSk5
namespace Go.Proofs.YtnobhjpobnmiaaaDoor.Sk
open Go Go.RowKit Go.Maps Go.Proofs Go.Proofs.YtnobhjpobnmiaaaDoorW.PrintWords Go.Proofs.YtnobhjpobnmiaaaDoorW.PrintLast Go.Proofs.YtnobhjpobnmiaaaDoorW.PrintMore
set_option linter.unusedVariables false
set_option linter.unusedSimpArgs false

/-- bytes.Clone, at any bytes -/
theorem clone_any (A : Option Addr) (c : Nat) (l : By) (w : World) (h : CB w A l.length l) (hl : l.length ≤ 140737488355328) :
    Calls Tryd.prog 23 #[.slice A l.length c] w fun e w' => ∃ A' c', e = .returned (.slice A' l.length c') ∧ Kd.R (Kd.int .u8) 5 w' w.heap.size (fun _ => True) (.slice A' l.length c') l ∧ Below w.heap.size w w' := by
  cases A with
  | none =>
    have hz : l = [] := by
      cases l with
      | nil => rfl
      | cons x r => obtain ⟨ad, e, _⟩ := h.2.2 (by simp); cases e
    subst hz
    exact (Tryd.bytes_Clone_nil 0 c w).mono fun e w' ⟨he, hw⟩ => ⟨none, 0, he, by rw [hw]; exact Kd.R_nil _ _ _ _ _, by rw [hw]; exact Below.refl _ _⟩
  | some ad =>
    refine (Tryd.bytes_Clone_at ad l.length c l w rfl hl (fun i hi => ?_)).mono ?_
    · obtain ⟨ad2, e, hc⟩ := Kd.at_int h (i : Int) (by omega) (by omega)
      cases e
      rw [Int.toNat_natCast] at hc
      rw [hc]
      congr 1
    · rintro e w' ⟨v', rfl, ho, _, hb⟩
      have hR : Kd.R (Kd.int .u8) 5 w' w.heap.size (fun _ => True) v' l := Kd.R_of_own (enc := Value.int .u8) (h1 := fun _ => rfl) ho (fun _ _ => trivial)
      obtain ⟨A', c', rfl⟩ := Kd.R_slice hR
      exact ⟨A', c', rfl, hR, hb⟩
section
variable {W W' : World} {p g cap m : Nat} {s t : D}
theorem seg_CB (h : CB W (some ⟨g, 0, none⟩) s.b.length s.b) (a n : Nat) (han : a + n ≤ s.b.length) : CB W (some ⟨g, a, none⟩) n ((s.b.drop a).take n) := by
  obtain ⟨h1, h2, h3⟩ := h
  refine ⟨by rw [List.length_take, List.length_drop]; omega, by omega, fun hp => ⟨_, rfl, fun j q hj => ?_⟩⟩
  obtain ⟨ad, e, hc⟩ := h3 (by omega)
  cases e
  have hjn : j < n := by
    have := (List.getElem?_eq_some_iff.1 hj).1
    rw [List.length_take] at this
    omega
  rw [List.getElem?_take, if_pos hjn, List.getElem?_drop] at hj
  obtain ⟨cs, k1, k2, k3⟩ := hc (a + j) q hj
  refine ⟨cs, k1, k2, fun i u hu => ?_⟩
  have := k3 i u hu
  rw [add_at] at this ⊢
  rw [← this]
  congr 2
  show a + (j * 1 + i) = 0 + ((a + j) * 1 + i)
  omega
set_option maxHeartbeats 2000000 in
set_option maxRecDepth 100000 in
theorem read_calls (h : SR W p g cap m s) (o : Ok s) (a n : Int) : Calls Tryd.prog 22 #[.pointer (some ⟨p, 0, none⟩), .int .i64 a, .int .i64 n] W fun e w' => ∃ A' c', e = .returned (.tuple #[.slice A' (s.read a n).1.length c', .int .i64 (s.read a n).2]) ∧ Kd.R (Kd.int .u8) 5 w' W.heap.size (fun _ => True) (.slice A' (s.read a n).1.length c') (s.read a n).1 ∧ Below W.heap.size W w' := by
  obtain ⟨h0, h1, h2, h3, h4⟩ := cells5 h.blk
  have hbl : s.b.length ≤ 65536 := by have := o.bl; have := o.n2; omega
  have HW := Lib.hid (within_calls h hbl a n)
  cases hd : s.down with
  | true =>
    have e : s.read a n = ([], 31) := by unfold D.read; rw [if_pos hd]
    rw [e]
    rw [hd] at h4
    clear h h0 h1 h2 h3 hd e o
    go_enter Tryd.func22, Tryd.ntmps22
    go_wp2_with fail
    go_ret2
    exact ⟨none, 0, rfl, Kd.R_nil _ _ _ _ _, Below.refl _ _⟩
  | false =>
    rw [hd] at h4
    cases hw : within s.b.length a n with
    | false =>
      have e : s.read a n = ([], 1) := by unfold D.read; rw [if_neg (by rw [hd]; decide), if_neg (by rw [hw]; decide)]
      rw [e]
      rw [hw] at HW
      clear h h0 h1 h2 h3 hd e o hw
      go_enter Tryd.func22, Tryd.ntmps22
      go_wp2_with (go_at_call 39; refine HW.out.mono ?_; rintro e w' ⟨rfl, rfl⟩)
      go_ret2
      exact ⟨none, 0, rfl, Kd.R_nil _ _ _ _ _, Below.refl _ _⟩
    | true =>
      have e : s.read a n = ((s.b.drop a.toNat).take n.toNat, 0) := by unfold D.read; rw [if_neg (by rw [hd]; decide), if_pos hw]
      rw [e]
      rw [hw] at HW
      obtain ⟨w1, w2, w3, w4⟩ := within_iff hw
      obtain ⟨k, rfl⟩ : ∃ k : Nat, a = (k : Int) := ⟨a.toNat, by omega⟩
      obtain ⟨j, rfl⟩ : ∃ j : Nat, n = (j : Int) := ⟨n.toNat, by omega⟩
      rw [Int.toNat_natCast, Int.toNat_natCast]
      have hkj : k + j ≤ s.b.length := by omega
      have hlen : ((s.b.drop k).take j).length = j := by rw [List.length_take, List.length_drop]; omega
      obtain ⟨ext, hrow, hext⟩ := h.row
      have hcap := h.cap_
      have hC := h.row.CB (by omega)
      have hS := seg_CB hC k j hkj
      have hc := fun A (hA : CB W A j ((s.b.drop k).take j)) => clone_any A (cap - k) ((s.b.drop k).take j) W (by rw [hlen]; exact hA) (by omega)
      rw [hlen] at hc
      have HC := Lib.hid hc
      obtain ⟨A7, hA7⟩ : ∃ A7 : Option Addr, (if cap = k then some ⟨g, 0, none⟩ else some ⟨g, k, none⟩) = A7 := ⟨_, rfl⟩
      have HS := Lib.hid (show CB W A7 j ((s.b.drop k).take j) from by
        rw [← hA7]
        split
        · have hj0 : j = 0 := by omega
          subst hj0
          exact ⟨by simp, by omega, fun hp => by omega⟩
        · exact hS)
      have HL := Lib.hid hlen
      obtain ⟨N, hN⟩ : ∃ N, s.b.length = N := ⟨_, rfl⟩
      rw [hN] at h0 hkj hext hbl
      have q1 : 0 ≤ (k : Int) := by omega
      have q2 : (k : Int) ≤ (k : Int) + (j : Int) := by omega
      have q3 : (k : Int) + (j : Int) ≤ (cap : Int) := by omega
      have q4 : IntKind.i64.wrap ((k : Int) + (j : Int)) = (k : Int) + (j : Int) := IntWalk.i64_in _ (by omega)
      have q5 : ((k : Int) + (j : Int)).toNat = k + j := by omega
      have q6 : k + j - k = j := by omega
      have q7 : (k : Int) ≤ (N : Int) := by omega
      clear h h1 h2 h3 hd e o hw hrow hext hC hS hc hN w1 w2 w3 w4 hlen
      go_enter Tryd.func22, Tryd.ntmps22
      go_wp2_with (go_at_call 39; refine HW.out.mono ?_; rintro e w' ⟨rfl, rfl⟩)
      refine (HC.out _ HS.out).mono ?_
      rintro e w' ⟨A', c', rfl, hR, hb⟩
      go_wp2_with fail
      go_ret2
      exact ⟨A', c', by rw [HL.out]; rfl, by rw [HL.out]; exact hR, hb⟩
end
end Go.Proofs.YtnobhjpobnmiaaaDoor.Sk
