/- The walk of SectorReads. -/
import Derived.Test.YtpchobikpamfcaaSk17
import Derived.StillTailTactics
import Derived.Outline
namespace Go.Proofs.Ytpchobikpamfcaa.Sk
open Go Go.RowKit Go.Maps Go.Proofs Go.Proofs.Ytpchobikpamfcaa.Q Go.Proofs.YtpchobikpamfcaaW.PrintWords Go.Proofs.YtpchobikpamfcaaW.PrintLast Go.Proofs.YtpchobikpamfcaaW.PrintMore
set_option linter.unusedVariables false
set_option linter.unusedSimpArgs false

theorem take_run (A : Option Addr) (c : Nat) (x : By) (hc : x.length ≤ c) (k : Nat) (hk : k ≤ x.length) :
    (∀ W : World, (Instr.slice 22 (.slice A x.length c) none (some (.int .i64 (k : Int))) none).run Try.prog W = .ok (.slice A k c) W) ∧ (∀ w : World, CB w A x.length x → CB w A k (x.take k)) := by
  obtain ⟨inf, hi1, hi2⟩ := u8info
  obtain ⟨h1, h2, _⟩ := print_take_of (P := Try.prog) (Value.int .u8) (0 : Int) 22 5 .i64 Try.underlying22 hi1 hi2 A c x (k : Int) (by omega) (by omega) hc
  have e : (x.take k).length = k := by rw [List.length_take]; omega
  rw [Int.toNat_natCast, e] at h1
  rw [Int.toNat_natCast, e] at h2
  exact ⟨h1, fun w hw => reads_CB.1 (h2 w (reads_CB.2 hw))⟩
theorem drop_run (A : Option Addr) (c : Nat) (x : By) (hc : x.length ≤ c) (k : Nat) (hk : k ≤ x.length) :
    ∃ A' : Option Addr, (∀ W : World, (Instr.slice 22 (.slice A x.length c) (some (.int .i64 (k : Int))) none none).run Try.prog W = .ok (.slice A' (x.length - k) (c - k)) W) ∧ (∀ w : World, CB w A x.length x → CB w A' (x.length - k) (x.drop k)) := by
  obtain ⟨inf, hi1, hi2⟩ := u8info
  obtain ⟨A', h1, h2, _⟩ := print_drop_of (P := Try.prog) (Value.int .u8) (0 : Int) 22 5 .i64 Try.underlying22 hi1 hi2 A c x (k : Int) (by omega) (by omega) hc
  rw [Int.toNat_natCast, List.length_drop] at h1
  rw [Int.toNat_natCast, List.length_drop] at h2
  exact ⟨A', h1, fun w hw => reads_CB.1 (h2 w (reads_CB.2 hw))⟩
theorem made_off (b : By) : (made b).off = false := rfl
theorem write_fit {b x : By} {k : Nat} (h : within b.length k x.length = true) : (made b).write k x = ({ (made b).did with b := splice b k x, wet := marks (made b).wet k x.length }, 0) := by
  unfold D.write
  rw [made_off, if_neg (by decide)]
  rw [show (made b).b = b from rfl, h, Int.toNat_natCast, if_pos rfl]
theorem write_unfit {b x : By} {k : Nat} (h : within b.length k x.length = false) : (made b).write k x = (made b, 1) := by
  unfold D.write
  rw [made_off, if_neg (by decide), if_neg (by rw [show (made b).b = b from rfl, h]; decide)]
theorem read_unfit {b : By} {k n : Nat} (h : within b.length k n = false) : (made b).read k n = ([], 1) := by
  unfold D.read
  rw [show (made b).down = false from rfl, if_neg (by decide), if_neg (by rw [show (made b).b = b from rfl, h]; decide)]
theorem read_fit {s : D} {k n : Nat} (hd : s.down = false) (h : within s.b.length k n = true) : s.read k n = ((s.b.drop k).take n, 0) := by
  unfold D.read
  rw [if_neg (by rw [hd]; decide), if_pos h, Int.toNat_natCast, Int.toNat_natCast]
theorem splice_take {b x : By} {k : Nat} (h : k + x.length ≤ b.length) : (splice b k x).take k = b.take k := by
  unfold splice
  rw [List.take_append_of_le_length (by rw [List.length_take]; omega), List.take_take, Nat.min_self]
theorem splice_mid {b x : By} {k : Nat} (h : k + x.length ≤ b.length) : ((splice b k x).drop k).take x.length = x := by
  unfold splice
  rw [List.drop_append_of_le_length (by rw [List.length_take]; omega), List.drop_of_length_le (by rw [List.length_take]; omega), List.nil_append, List.take_append_of_le_length (Nat.le_refl _), List.take_length]
theorem splice_drop {b x : By} {k : Nat} (h : k + x.length ≤ b.length) : (splice b k x).drop (k + x.length) = b.drop (k + x.length) := by
  unfold splice
  rw [List.drop_append, List.drop_append]
  have e1 : (b.take k).length = k := by rw [List.length_take]; omega
  rw [e1, List.drop_of_length_le (l := b.take k) (by omega), show k + x.length - k = x.length by omega, List.drop_of_length_le (l := x) (by omega), Nat.sub_self, List.drop_zero]
  rfl
theorem within_mk {N k n : Nat} (h : k + n ≤ N) : within N k n = true := by
  unfold within
  rw [decide_eq_true (by omega), decide_eq_true (by omega), decide_eq_true (by omega), decide_eq_true (by omega)]
  rfl
theorem within_no {N k n : Nat} (h : ¬ k + n ≤ N) : within N k n = false := by
  cases hh : within N k n with
  | false => rfl
  | true => have := within_iff hh; omega
set_option maxHeartbeats 8000000 in
set_option maxRecDepth 100000 in
theorem sectorReads_walk {W : World} (A0 : Option Addr) (c0 : Nat) (first : By) (hf : CB W A0 first.length first) (hc0 : first.length ≤ c0) (hfr : ∀ y ∈ first, 0 ≤ y ∧ y ≤ 255) (hfl : first.length ≤ 140737488355328) (at_ : Int) (ha0 : 0 ≤ at_) (ha1 : at_ ≤ 65535) (A2 : Option Addr) (c2 : Nat) (b : By) (hb : CB W A2 b.length b) (hbr : ∀ y ∈ b, 0 ≤ y ∧ y ≤ 255) :
    Calls Try.prog 4 #[.slice A0 first.length c0, .int .u16 at_, .slice A2 b.length c2] W fun e w' => e = .returned (.bool true) ∧ Below W.heap.size W w' := by
  have HH := Lib.hid (head_calls W)
  have HF := Lib.hid hf
  have HBB := Lib.hid hb
  have hfl2 : (first.length : Int) ≤ 140737488355328 := by omega
  have hbl : (b.length : Int) ≤ 9223372036854775807 := by have := hb.2.1; omega
  cases hok : okLen first.length with
  | false =>
    have HN := Lib.hid (fun W' => of_nil (W := W') A0 c0 first hfl hok)
    clear hf hb hok
    go_enter Try.func4, Try.ntmps4
    go_wp2_with fail
    refine HH.out.mono ?_
    rintro e w0 ⟨rfl, hb0⟩
    have HB0 := Lib.hid hb0
    clear hb0
    go_wp2_with (go_at_call 10; refine (HN.out _).mono ?_; rintro e w1 ⟨rfl, rfl⟩)
    go_ret
    exact ⟨rfl, HB0.out⟩
  | true =>
    have HN := Lib.hid (fun W' (hb : CB W' A0 first.length first) => of_calls (W := W') A0 c0 first hb hok)
    have HOK := Lib.hid (okLen_iff hok)
    have HO0 := Lib.hid (ok_made hok hfr)
    have HBR := Lib.hid hbr
    clear hf hb hok hfr hbr
    by_cases big : first.length > 5000 ∨ b.length > 5000
    · rcases (show first.length > 5000 ∨ (¬ first.length > 5000 ∧ b.length > 5000) by omega) with h5 | ⟨h5, h6⟩
      · have h5z : decide ((first.length : Int) > 5000) = true := decide_eq_true (by omega)
        go_enter Try.func4, Try.ntmps4
        go_wp2_with fail
        refine HH.out.mono ?_
        rintro e w0 ⟨rfl, hb0⟩
        have HB0 := Lib.hid hb0
        clear hb0
        go_wp2_with fail
        refine (HN.out _ (C_arg HF.out HB0.out)).mono ?_
        rintro e w1 ⟨p, g, cap, m, rfl, hs, hp, hg, hm, hb⟩
        have HB1 := Lib.hid (below_step HB0.out hb)
        clear hs hp hg hm hb
        go_wp2_with fail
        go_ret
        exact ⟨rfl, HB1.out⟩
      · have h5z : decide ((first.length : Int) > 5000) = false := decide_eq_false (by omega)
        have h6z : decide ((b.length : Int) > 5000) = true := decide_eq_true (by omega)
        go_enter Try.func4, Try.ntmps4
        go_wp2_with fail
        refine HH.out.mono ?_
        rintro e w0 ⟨rfl, hb0⟩
        have HB0 := Lib.hid hb0
        clear hb0
        go_wp2_with fail
        refine (HN.out _ (C_arg HF.out HB0.out)).mono ?_
        rintro e w1 ⟨p, g, cap, m, rfl, hs, hp, hg, hm, hb⟩
        have HB1 := Lib.hid (below_step HB0.out hb)
        clear hs hp hg hm hb
        go_wp2_with fail
        go_ret
        exact ⟨rfl, HB1.out⟩
    · have h5z : decide ((first.length : Int) > 5000) = false := decide_eq_false (by omega)
      have h6z : decide ((b.length : Int) > 5000) = false := decide_eq_false (by omega)
      obtain ⟨N, hN⟩ : ∃ N, first.length = N := ⟨_, rfl⟩
      have HNN := Lib.hid hN
      obtain ⟨nb, hnb⟩ : ∃ n, b.length = n := ⟨_, rfl⟩
      have HNB := Lib.hid hnb
      rw [hN] at h5z hfl2 big HN ⊢
      rw [hnb] at h6z hbl big ⊢
      clear hN hnb
      obtain ⟨k, hk⟩ : ∃ k : Nat, at_ % ((N : Int) + 20) = (k : Int) := ⟨(at_ % ((N : Int) + 20)).toNat, by have := Int.emod_nonneg at_ (show ((N : Int) + 20) ≠ 0 by omega); omega⟩
      have hkb : k < N + 20 := by have := Int.emod_lt_of_pos at_ (show 0 < ((N : Int) + 20) by omega); omega
      have q0 : 0 < (N : Int) + 20 := by omega
      have q1 : ((N : Int) + 20 == 0) = false := beq_eq_false_iff_ne.2 (by omega)
      have q2 : IntKind.i64.wrap at_ = at_ := IntWalk.i64_in _ (by omega)
      have hN5 : N ≤ 5000 := by omega
      have hnb5 : nb ≤ 5000 := by omega
      have hk5 : k ≤ 6000 := by omega
      clear big
      go_enter Try.func4, Try.ntmps4
      go_wp2_with fail
      refine HH.out.mono ?_
      rintro e w0 ⟨rfl, hb0⟩
      have HB0 := Lib.hid hb0
      clear hb0
      go_wp2_with fail
      rw [← HNN.out] at HN ⊢
      refine (HN.out _ (C_arg HF.out HB0.out)).mono ?_
      rw [HNN.out] at HN ⊢
      rintro e w1 ⟨p, g, cap, m, rfl, hs, hp, hg, hm, hb⟩
      have HP := Lib.hid (show W.heap.size ≤ p ∧ W.heap.size ≤ g ∧ W.heap.size ≤ m from ⟨Nat.le_trans HB0.out.size hp, Nat.le_trans HB0.out.size hg, Nat.le_trans HB0.out.size hm⟩)
      have HS1 := Lib.hid hs
      have HB1 := Lib.hid (below_step HB0.out hb)
      clear hs hp hg hm hb
      go_wp2_with fail
      rw [← HNB.out]
      refine (write_calls HS1.out HO0.out (Nat.zero_le _) (k : Int) b (C_arg HBB.out HB1.out) (arg_off (arg_lt HBB.out) HP.out)).mono ?_
      rintro e w2 ⟨he, hs, hf⟩
      have HO2 := Lib.hid (ok_write HO0.out (k : Int) b HBR.out)
      have HB2 := Lib.hid (Fr.weaken HB1.out hf HP.out.1 HP.out.2.1 HP.out.2.2 (Nat.le_refl _))
      rw [HNB.out]
      by_cases fit : k + nb ≤ N
      · have hw : within first.length k b.length = true := within_mk (by rw [HNN.out, HNB.out]; exact fit)
        rw [write_fit hw] at he
        subst he
        have HS2 := Lib.hid hs
        have hsb : ((made first).write (k : Int) b).1.b = splice first k b := by rw [write_fit hw]
        have hsd : ((made first).write (k : Int) b).1.down = false := by rw [write_fit hw]; rfl
        obtain ⟨s, hs2⟩ : ∃ s, ((made first).write (k : Int) b).1 = s := ⟨_, rfl⟩
        rw [hs2] at HS2 HO2 hsb hsd
        have HSB := Lib.hid hsb
        have hlen : s.b.length = first.length := by rw [hsb]; exact splice_len _ _ _ (by rw [HNN.out, HNB.out]; exact fit)
        have hrd := read_fit (s := s) (k := k) (n := b.length) hsd (by rw [hlen]; exact hw)
        rw [hsb, splice_mid (by rw [HNN.out, HNB.out]; exact fit)] at hrd
        have HRD := Lib.hid hrd
        have HLEN := Lib.hid hlen
        clear hs hf hs2 hsb hsd hrd hlen hw
        go_wp2_with fail
        rw [← HNB.out]
        refine (read_calls HS2.out HO2.out (k : Int) (b.length : Int)).mono ?_
        rw [HNB.out]
        rintro e w3 ⟨A3, c3, he, hR, hb3⟩
        rw [HNB.out.symm, HRD.out] at he hR
        subst he
        have HR3 := Lib.hid (rC hR)
        have HS3 := Lib.hid (HS2.out.below hb3)
        have HB3 := Lib.hid (below_step HB2.out hb3)
        clear hR hb3
        go_wp2_with fail
        refine (bytes_calls HS3.out HO2.out).mono ?_
        rintro e w4 ⟨g4, c4, rfl, k1, k2, k3⟩
        have HB4 := Lib.hid (below_step HB3.out k3)
        have hx := str_run (c := c3) (C_arg HR3.out k3)
        have hbq := str_run (c := c2) (C_arg HBB.out HB4.out)
        have h4 := k2.CB (by rw [HLEN.out]; omega)
        have hle4 : s.b.length ≤ c4 := by obtain ⟨ext, _, h⟩ := k2; omega
        obtain ⟨t1, t2⟩ := take_run (some ⟨g4, 0, none⟩) c4 s.b hle4 k (by rw [HLEN.out, HNN.out]; omega)
        obtain ⟨t3, t4⟩ := take_run A0 c0 first hc0 k (by rw [HNN.out]; omega)
        obtain ⟨B4, d1, d2⟩ := drop_run (some ⟨g4, 0, none⟩) c4 s.b hle4 (k + nb) (by rw [HLEN.out, HNN.out]; omega)
        obtain ⟨B0, d3, d4⟩ := drop_run A0 c0 first hc0 (k + nb) (by rw [HNN.out]; omega)
        have HF4 := C_arg HF.out HB4.out
        have x1 := str_run (c := c4) (t2 _ h4)
        have x2 := str_run (c := c0) (t4 _ HF4)
        have x3 := str_run (c := c4 - (k + nb)) (d2 _ h4)
        have x4 := str_run (c := c0 - (k + nb)) (d4 _ HF4)
        rw [HSB.out, splice_take (by rw [HNN.out, HNB.out]; exact fit)] at x1
        have e3 : s.b.drop (k + nb) = first.drop (k + nb) := by rw [HSB.out, ← HNB.out]; exact splice_drop (by rw [HNN.out, HNB.out]; exact fit)
        rw [e3] at x3
        have e4 : ((k + nb : Nat) : Int) = (k : Int) + (nb : Int) := by omega
        rw [e4] at d1 d3
        rw [HLEN.out, HNN.out] at d1 x3 t1
        rw [HNN.out] at t3 d3 x4
        rw [HLEN.out, HNN.out]
        rw [HNB.out] at hx hbq ⊢
        have hx' := fun q => (show (convert 22 9 (.slice A3 nb c3)).run Try.prog (w4.drewN q) = .ok (.string (strOfNums b)) (w4.drewN q) from str_run (c := c3) (by have := C_arg HR3.out (below_drewN k3 q); rw [HNB.out] at this; exact this))
        have hbq' := fun q => (show (convert 22 9 (.slice A2 nb c2)).run Try.prog (w4.drewN q) = .ok (.string (strOfNums b)) (w4.drewN q) from str_run (c := c2) (by have := C_arg HBB.out (below_drewN HB4.out q); rw [HNB.out] at this; exact this))
        have x1' := fun q => (show (convert 22 9 (.slice (some ⟨g4, 0, none⟩) k c4)).run Try.prog (w4.drewN q) = .ok (.string (strOfNums (first.take k))) (w4.drewN q) from by have := str_run (c := c4) (t2 _ (C_arg h4 (below_drewN (Below.refl _ _) q))); rw [HSB.out, splice_take (by rw [HNN.out, HNB.out]; exact fit)] at this; exact this)
        have x2' := fun q => (show (convert 22 9 (.slice A0 k c0)).run Try.prog (w4.drewN q) = .ok (.string (strOfNums (first.take k))) (w4.drewN q) from str_run (c := c0) (t4 _ (C_arg HF4 (below_drewN (Below.refl _ _) q))))
        have x3' := fun q => (show (convert 22 9 (.slice B4 (N - (k + nb)) (c4 - (k + nb)))).run Try.prog (w4.drewN q) = .ok (.string (strOfNums (first.drop (k + nb)))) (w4.drewN q) from by have := str_run (c := c4 - (k + nb)) (d2 _ (C_arg h4 (below_drewN (Below.refl _ _) q))); rw [e3, HLEN.out, HNN.out] at this; exact this)
        have x4' := fun q => (show (convert 22 9 (.slice B0 (N - (k + nb)) (c0 - (k + nb)))).run Try.prog (w4.drewN q) = .ok (.string (strOfNums (first.drop (k + nb)))) (w4.drewN q) from by have := str_run (c := c0 - (k + nb)) (d4 _ (C_arg HF4 (below_drewN (Below.refl _ _) q))); rw [HNN.out] at this; exact this)
        have z1 : decide ((k : Int) ≤ (N : Int)) = true := decide_eq_true (by omega)
        have z2 : decide ((k : Int) + (nb : Int) ≤ (N : Int)) = true := decide_eq_true (by omega)
        obtain ⟨S1, hS1⟩ : ∃ S, strOfNums b = S := ⟨_, rfl⟩
        obtain ⟨S2, hS2⟩ : ∃ S, strOfNums (first.take k) = S := ⟨_, rfl⟩
        obtain ⟨S3, hS3⟩ : ∃ S, strOfNums (first.drop (k + nb)) = S := ⟨_, rfl⟩
        rw [hS1] at hx' hbq'
        rw [hS2] at x1' x2'
        rw [hS3] at x3' x4'
        clear hx hbq h4 hle4 t2 t4 d2 d4 HF4 x1 x2 x3 x4 e3 e4 k1 k2 k3 hS1 hS2 hS3
        go_wp2_with fail
        go_quiet (fail)
        go_wp2_with fail
        go_ret
        exact ⟨rfl, below_drewN HB4.out _⟩
      · have hw : within first.length k b.length = false := within_no (by rw [HNN.out, HNB.out]; exact fit)
        rw [write_unfit hw] at he hs HO2
        subst he
        have HS2 := Lib.hid hs
        have hrd := read_unfit hw
        have HRD := Lib.hid hrd
        clear hs hf hrd hw
        go_wp2_with fail
        rw [← HNB.out]
        refine (read_calls HS2.out HO2.out (k : Int) (b.length : Int)).mono ?_
        rintro e w3 ⟨A3, c3, he, hR, hb3⟩
        rw [HRD.out] at he hR
        subst he
        have HS3 := Lib.hid (HS2.out.below hb3)
        have HB3 := Lib.hid (below_step HB2.out hb3)
        clear hR hb3
        go_wp2_with fail
        refine (bytes_calls HS3.out HO2.out).mono ?_
        rintro e w4 ⟨g4, c4, rfl, k1, k2, k3⟩
        have HB4 := Lib.hid (below_step HB3.out k3)
        have h4 : CB w4 (some ⟨g4, 0, none⟩) first.length first := k2.CB (by show first.length ≤ _; omega)
        have x1 := str_run (c := c4) h4
        have x2 := str_run (c := c0) (C_arg HF.out HB4.out)
        rw [HNN.out] at x1 x2
        change _ at x1
        rw [show (made first).b.length = N from HNN.out, HNB.out]
        obtain ⟨S1, hS1⟩ : ∃ S, strOfNums first = S := ⟨_, rfl⟩
        rw [hS1] at x1 x2
        clear h4 k1 k2 k3 hS1
        rcases (show (k : Int) ≤ (N : Int) ∧ ¬ ((k : Int) + (nb : Int) ≤ (N : Int)) ∨ ¬ (k : Int) ≤ (N : Int) by omega) with ⟨z1, z2⟩ | z1
        · have z3 : decide ((k : Int) ≤ (N : Int)) = true := decide_eq_true z1
          have z4 : decide ((k : Int) + (nb : Int) ≤ (N : Int)) = false := decide_eq_false z2
          have z5 : k ≤ N := by omega
          have z6 : (N : Int) < (k : Int) + (nb : Int) := by omega
          clear z1 z2
          go_wp2_with fail
          go_ret
          exact ⟨rfl, HB4.out⟩
        · have z3 : decide ((k : Int) ≤ (N : Int)) = false := decide_eq_false z1
          have z5 : ¬ k ≤ N := by omega
          clear z1
          go_wp2_with fail
          go_ret
          exact ⟨rfl, HB4.out⟩
end Go.Proofs.Ytpchobikpamfcaa.Sk
