/- The walk of SectorSynced. -/
import Derived.Test.YtpchobikpamfcaaSk17
import Derived.StillTailTactics
import Derived.Outline
import Derived.Deep.RegionHeld
namespace Go.Proofs.Ytpchobikpamfcaa.Sk
open Go Go.RowKit Go.Maps Go.Proofs Go.Proofs.Ytpchobikpamfcaa.Q Go.Proofs.YtpchobikpamfcaaW.PrintWords Go.Proofs.YtpchobikpamfcaaW.PrintLast Go.Proofs.YtpchobikpamfcaaW.PrintMore
set_option linter.unusedVariables false
set_option linter.unusedSimpArgs false

theorem sync_off {s : D} {first : By} {i : Nat} (h : Inv s first i) : s.sync = ({ s.did with old := s.b, wet := List.replicate s.wet.length false }, 0) := by unfold D.sync; rw [if_neg (by rw [h.off]; decide)]
theorem loose_rep (n : Nat) : loose (List.replicate n false) = [] := by
  unfold loose
  rw [List.filter_eq_nil_iff]
  intro i _
  rw [repl_get]
  decide
theorem sync_crash {s : D} {first : By} {i : Nat} (h : Inv s first i) (keep : List Bool) : (s.sync.1.crash keep).b = s.b := by
  rw [sync_off h]
  show restore s.b keep (loose (List.replicate s.wet.length false)) 0 s.b = s.b
  rw [loose_rep]
  rfl
theorem sync_write {s : D} {first : By} {i : Nat} (h : Inv s first i) (a : Int) (x : By) (hw : within s.b.length a x.length = false) : s.sync.1.write a x = (s.sync.1, 1) := by
  rw [sync_off h]
  have hf := h.fuse
  unfold D.write
  rw [if_neg, if_neg]
  · show ¬ within s.b.length a x.length = true
    rw [hw]; decide
  · have e : D.off { s.did with old := s.b, wet := List.replicate s.wet.length false } = false := by
      unfold D.off
      show (false || (tick s.fuse == 0)) = false
      rw [hf]; rfl
    rw [e]; decide
theorem sync_acts {s : D} {first : By} {i : Nat} (h : Inv s first i) (hi : i ≤ 300) : s.sync.1.acts ≤ 1000000000 := by
  rw [sync_off h]
  have := h.acts
  show s.acts + 1 ≤ _
  omega
theorem sync_wet {s : D} {first : By} {i : Nat} (h : Inv s first i) : looseI s.sync.1.wet = [] := by
  rw [sync_off h]
  exact looseI_rep _
set_option maxHeartbeats 8000000 in
set_option maxRecDepth 100000 in
theorem sectorSynced_walk {W : World} (A0 : Option Addr) (c0 : Nat) (first : By) (hf : CB W A0 first.length first) (hc0 : first.length ≤ c0) (hfr : ∀ y ∈ first, 0 ≤ y ∧ y ≤ 255) (hfl : first.length ≤ 140737488355328) (A1 : Option Addr) (c1 : Nat) (l : List Op) (hl : Kd.C k30 W A1 l.length l) (ho : OkOps l) (A2 : Option Addr) (c2 : Nat) (keep : List Bool) (hk : CBool W A2 keep.length keep) (at_ : Int) (A4 : Option Addr) (c4 : Nat) (b : By) (hb : CB W A4 b.length b) :
    Calls Try.prog 6 #[.slice A0 first.length c0, .slice A1 l.length c1, .slice A2 keep.length c2, .int .i64 at_, .slice A4 b.length c4] W fun e w' => e = .returned (.bool true) ∧ Below W.heap.size W w' := by
  have HH := Lib.hid (head_calls W)
  have HR := Lib.hid hl
  have HO := Lib.hid ho
  have HF := Lib.hid hf
  have hll := ho.1
  have hfl2 : (first.length : Int) ≤ 140737488355328 := by omega
  have HK := Lib.hid hk
  have HBB := Lib.hid hb
  have hbl : (b.length : Int) ≤ 9223372036854775807 := by have := hb.2.1; omega
  clear hk hb
  cases hok : okLen first.length with
  | false =>
    have HN := Lib.hid (fun W' => of_nil (W := W') A0 c0 first hfl hok)
    clear hl ho hf hok
    go_enter Try.func6, Try.ntmps6
    go_wp2_with fail
    refine HH.out.mono ?_
    rintro e w0 ⟨rfl, hb0⟩
    have HB0 := Lib.hid hb0
    clear hb0
    go_wp2_with (go_at_call 10; refine (HN.out _).mono ?_; rintro e w1 ⟨rfl, rfl⟩)
    go_ret
    exact ⟨rfl, HB0.out⟩
  | true =>
    have HN := Lib.hid (fun W' (hb : CB W' A0 first.length first) => of_calls (W := W') A0 c0 first hb hok)
    have HI0 := Lib.hid (inv0 hok hfr)
    have HOK := Lib.hid (okLen_iff hok)
    have HGR := Lib.hid (fun wq (hb : Below W.heap.size W wq) => great_calls A1 c1 l HR.out HO.out hb)
    clear hl ho hf hok hfr
    cases hgr : greatB l with
    | true =>
      rw [hgr] at HGR
      go_enter Try.func6, Try.ntmps6
      go_wp2_with fail
      refine HH.out.mono ?_
      rintro e w0 ⟨rfl, hb0⟩
      have HB0 := Lib.hid hb0
      clear hb0
      go_wp2_with fail
      refine (HN.out _ (C_arg HF.out HB0.out)).mono ?_
      rintro e w1 ⟨p, g, cap, m, rfl, hs, hp, hg, hm, hb⟩
      have HB1 := Lib.hid (below_step HB0.out hb)
      clear hs hp hg hm hb
      go_wp2_with (go_at_call 11; refine (HGR.out _ HB1.out).mono ?_; rintro e w2 ⟨rfl, q, rfl⟩)
      go_ret
      exact ⟨rfl, below_drewN HB1.out q⟩
    | false =>
      rw [hgr] at HGR
      have HLL := Lib.hid (great_no hgr)
      by_cases h5 : first.length > 5000
      · have h5z : decide ((first.length : Int) > 5000) = true := decide_eq_true (by omega)
        go_enter Try.func6, Try.ntmps6
        go_wp2_with fail
        refine HH.out.mono ?_
        rintro e w0 ⟨rfl, hb0⟩
        have HB0 := Lib.hid hb0
        clear hb0
        go_wp2_with fail
        refine (HN.out _ (C_arg HF.out HB0.out)).mono ?_
        rintro e w1 ⟨p, g, cap, m, rfl, hs, hp, hg, hm, hb⟩
        have HB1 := Lib.hid (below_step HB0.out hb)
        clear hs hp hg hm hb
        go_wp2_with (go_at_call 11; refine (HGR.out _ HB1.out).mono ?_; rintro e w2 ⟨rfl, q, rfl⟩)
        go_ret
        exact ⟨rfl, below_drewN HB1.out q⟩
      · have h5z : decide ((first.length : Int) > 5000) = false := decide_eq_false (by omega)
        by_cases h9 : b.length > 9000
        · have h9z : decide ((b.length : Int) > 9000) = true := decide_eq_true (by omega)
          go_enter Try.func6, Try.ntmps6
          go_wp2_with fail
          refine HH.out.mono ?_
          rintro e w0 ⟨rfl, hb0⟩
          have HB0 := Lib.hid hb0
          clear hb0
          go_wp2_with fail
          refine (HN.out _ (C_arg HF.out HB0.out)).mono ?_
          rintro e w1 ⟨p, g, cap, m, rfl, hs, hp, hg, hm, hb⟩
          have HB1 := Lib.hid (below_step HB0.out hb)
          clear hs hp hg hm hb
          go_wp2_with (go_at_call 11; refine (HGR.out _ HB1.out).mono ?_; rintro e w2 ⟨rfl, q, rfl⟩)
          go_ret
          exact ⟨rfl, below_drewN HB1.out q⟩
        · have h9z : decide ((b.length : Int) > 9000) = false := decide_eq_false (by omega)
          go_enter Try.func6, Try.ntmps6
          go_wp2_with fail
          refine HH.out.mono ?_
          rintro e w0 ⟨rfl, hb0⟩
          have HB0 := Lib.hid hb0
          clear hb0
          go_wp2_with fail
          refine (HN.out _ (C_arg HF.out HB0.out)).mono ?_
          rintro e w1 ⟨p, g, cap, m, rfl, hs, hp, hg, hm, hb⟩
          have HP := Lib.hid (show W.heap.size ≤ p ∧ W.heap.size ≤ g ∧ W.heap.size ≤ m from ⟨Nat.le_trans HB0.out.size hp, Nat.le_trans HB0.out.size hg, Nat.le_trans HB0.out.size hm⟩)
          have HS0 := Lib.hid hs
          have HB0' := Lib.hid (below_step HB0.out hb)
          clear hs hp hg hm hb
          go_wp2_with (go_at_call 11; refine (HGR.out _ HB0'.out).mono ?_; rintro e w2 ⟨rfl, hq⟩; have HQ := Lib.hid hq; clear hq)
          have HS1 := Lib.hid (show SR w2 p g cap m (made first) by obtain ⟨q, rfl⟩ := HQ.out; exact HS0.out.below (below_drewN (Below.refl _ _) q))
          have HB1 := Lib.hid (show Below W.heap.size W w2 by obtain ⟨q, rfl⟩ := HQ.out; exact below_drewN HB0'.out q)
          go_loopg [13] l.length (fun gg s13 wr => ∃ (i : Nat) (s : D), i ≤ l.length ∧ l.length - i ≤ gg ∧ s13 = .int .i64 i ∧ Hid (SR wr p g cap m s) ∧ Hid (Inv s first i) ∧ Hid (Below W.heap.size W wr))
          case atStart => exact ⟨0, made first, Nat.zero_le _, by omega, rfl, HS1.out, HI0.out, HB1.out⟩
          case round =>
            obtain ⟨i, s, hi, hgg, rfl, HS, HI, HB⟩ := hrel
            by_cases hlt : i < l.length
            · have hltz : decide ((i : Int) < (l.length : Int)) = true := decide_eq_true (by omega)
              have HLT := Lib.hid hlt
              obtain ⟨o, ho⟩ : ∃ o, l[i]? = some o := ⟨_, List.getElem?_eq_getElem hlt⟩
              obtain ⟨ad, X2, c2, X4, c4, ea, x0, x1, x2, x3, x4, hB2, hB4⟩ := op_at2 HR.out HB.out ho
              obtain ⟨_, _, hby, _⟩ := HO.out.2 _ (List.mem_of_getElem? ho)
              have HI2 := Lib.hid (inv_step HI.out o hby)
              obtain ⟨o0, o1, o2, o3, o4⟩ := o
              dsimp only at x0 x1 x2 hB2 hby
              have HX := Lib.hid (C_arg hB2 HB.out)
              have HAL := Lib.hid (arg_lt hB2)
              clear x3 x4 ho hby hB2 hB4
              cases ea
              rcases (show (o0 ≥ 0 ∧ o0 < 3) ∨ (¬ o0 ≥ 0) ∨ (o0 ≥ 0 ∧ ¬ o0 < 3) by omega) with ⟨d1, d2⟩ | d1 | ⟨d1, d2⟩
              · have HE := Lib.hid (show wr1 s ⟨o0, o1, o2, o3, o4⟩ = (s.write o1 o2).1 from if_pos ⟨d1, d2⟩)
                obtain ⟨n2, hn2⟩ : ∃ n2, o2.length = n2 := ⟨_, rfl⟩
                rw [hn2] at x2
                have HN2 := Lib.hid hn2
                clear hn2
                go_wp2_with fail
                go_still_tail 11, (by kernel_rfl)
                clear x0 x1 x2
                have HSd := Lib.hid (HS.out.below (below_drew (Below.refl _ _)))
                have HBd := Lib.hid (HB.out.trans ((below_drew (Below.refl wr.heap.size wr)).mono HB.out.size))
                have HXd := Lib.hid (CB.keep (w' := wr.drew) HX.out (fun ad e hp => rfl))
                go_wp2_with fail
                rw [← HN2.out]
                refine (write_calls HSd.out HI.out.ok (by have := HI.out.acts; have := HLL.out; omega) o1 o2 HXd.out (arg_off HAL.out HP.out)).mono ?_
                rintro e w2 ⟨rfl, hs, hf⟩
                have HS2 := Lib.hid (show SR w2 p g cap m (wr1 s ⟨o0, o1, o2, o3, o4⟩) by rw [HE.out]; exact hs)
                have HB2 := Lib.hid (Fr.weaken HBd.out hf HP.out.1 HP.out.2.1 HP.out.2.2 (Nat.le_refl _))
                clear hs hf
                go_wp2_with fail
                go_roundg (l.length - (i + 1))
                case measure => have := HLT.out; omega
                case rel => exact ⟨i + 1, _, by have := HLT.out; omega, by omega, by go_num, HS2, HI2, HB2⟩
              · have HE := Lib.hid (show wr1 s ⟨o0, o1, o2, o3, o4⟩ = s from if_neg (by show ¬ (0 ≤ o0 ∧ o0 < 3); omega))
                rw [HE.out] at HI2
                go_wp2_with fail
                go_roundg (l.length - (i + 1))
                case measure => have := HLT.out; omega
                case rel => exact ⟨i + 1, s, by have := HLT.out; omega, by omega, by go_num, HS, HI2, HB⟩
              · have HE := Lib.hid (show wr1 s ⟨o0, o1, o2, o3, o4⟩ = s from if_neg (by show ¬ (0 ≤ o0 ∧ o0 < 3); omega))
                rw [HE.out] at HI2
                go_wp2_with fail
                go_roundg (l.length - (i + 1))
                case measure => have := HLT.out; omega
                case rel => exact ⟨i + 1, s, by have := HLT.out; omega, by omega, by go_num, HS, HI2, HB⟩
            · have hltz : decide ((i : Int) < (l.length : Int)) = false := decide_eq_false (by omega)
              go_wp2_with fail
              refine (sync_calls HS.out HI.out.ok (by have := HI.out.acts; have := HLL.out; omega)).mono ?_
              rintro e w3 ⟨he, hs, hf⟩
              rw [show s.sync.2 = 0 by rw [sync_off HI.out]] at he
              subst he
              have HS3 := Lib.hid hs
              have HB3 := Lib.hid (Fr.weaken HB.out hf HP.out.1 HP.out.2.1 HP.out.2.2 (Nat.le_refl _))
              have HO3 := Lib.hid (ok_sync HI.out.ok)
              clear hs hf
              go_wp2_with fail
              refine (bytes_calls HS3.out HO3.out).mono ?_
              rintro e w4 ⟨gw, cw, rfl, k1, k2, k3⟩
              have hb3 : s.sync.1.b = s.b := by rw [sync_off HI.out]; rfl
              rw [hb3, HI.out.len]
              rw [hb3] at k2
              have HS4 := Lib.hid (HS3.out.below k3)
              have HB4 := Lib.hid (HB3.out.trans (k3.mono HB3.out.size))
              have HW4 := Lib.hid k2
              have HGW := Lib.hid (And.intro k1 HS3.out.lt)
              clear k1 k2 k3 hb3
              have HIL := Lib.hid (show i ≤ 300 by have := HLL.out; omega)
              obtain ⟨N, hN⟩ : ∃ N, first.length = N := ⟨_, rfl⟩
              have HNN := Lib.hid hN
              have hN5 : N ≤ 5000 := by omega
              obtain ⟨nb, hnb⟩ : ∃ n, b.length = n := ⟨_, rfl⟩
              have HNB := Lib.hid hnb
              have hnb9 : nb ≤ 9000 := by omega
              rw [hN, hnb]
              clear hN hnb
              rcases (show at_ < 0 ∨ (¬ at_ < 0 ∧ at_ > (N : Int)) ∨ (¬ at_ < 0 ∧ ¬ at_ > (N : Int) ∧ (nb : Int) > (N : Int) - at_) ∨ (¬ at_ < 0 ∧ ¬ at_ > (N : Int) ∧ ¬ (nb : Int) > (N : Int) - at_) by omega) with d1 | ⟨d1, d2⟩ | ⟨d1, d2, d3⟩ | ⟨d1, d2, d3⟩
              · have HWI := Lib.hid (show within s.b.length at_ b.length = false by
                  rw [HI.out.len, HNN.out, HNB.out]
                  cases hh : within N at_ nb with
                  | false => rfl
                  | true => have := within_iff hh; omega)
                go_wp2_with fail
                clear d1 
                rw [← HNB.out]
                refine (write_calls HS4.out HO3.out (sync_acts HI.out HIL.out) at_ b (C_arg HBB.out HB4.out) (arg_off (arg_lt HBB.out) HP.out)).mono ?_
                rintro e w5 ⟨he, hs, hf⟩
                rw [sync_write HI.out at_ b HWI.out] at he hs
                subst he
                have HS5 := Lib.hid hs
                have HB5 := Lib.hid (Fr.weaken HB4.out hf HP.out.1 HP.out.2.1 HP.out.2.2 (Nat.le_refl _))
                have HW5 := Lib.hid (HW4.out.keep (hf.block gw (by obtain ⟨ext, hr, _⟩ := HW4.out; exact blk_lt hr) (by have := HGW.out; omega) (by have := HGW.out; omega) (by have := HGW.out; omega)))
                clear hs hf
                go_wp2_with (go_at_call 14; refine (loose_calls HS5.out HO3.out).mono ?_; rintro e w6 ⟨v, rfl, hv, hb⟩; rw [sync_wet HI.out] at hv; obtain ⟨Av, cv, rfl, _, _⟩ := Kd.R_reads hv; have HS6 := Lib.hid (HS5.out.below hb); have HB6 := Lib.hid (HB5.out.trans (hb.mono HB5.out.size)); have HW6 := Lib.hid (HW5.out.keep (hb.block gw (by obtain ⟨ext, hr, _⟩ := HW5.out; exact blk_lt hr))); clear hv hb)
                refine (crash_calls HS6.out HO3.out keep (C_arg HK.out HB6.out) (arg_off (cbool_lt HK.out) HP.out)).mono ?_
                rintro e w7 ⟨rfl, hs, hf⟩
                have HS7 := Lib.hid hs
                have HB7 := Lib.hid (Fr.weaken HB6.out hf HP.out.1 HP.out.2.1 HP.out.2.2 (Nat.le_refl _))
                have HW7 := Lib.hid (HW6.out.keep (hf.block gw (by obtain ⟨ext, hr, _⟩ := HW6.out; exact blk_lt hr) (by have := HGW.out; omega) (by have := HGW.out; omega) (by have := HGW.out; omega)))
                clear hs hf
                have HOK7 := Lib.hid (ok_crash HO3.out keep)
                have hcw : ∀ w', Row w' gw cw s.b → (convert 22 9 (.slice (some ⟨gw, 0, none⟩) N cw)).run Try.prog w' = .ok (.string (strOfNums s.b)) w' := fun w' h => by
                  have := h.CB (by rw [HI.out.len, HNN.out]; omega)
                  rw [HI.out.len, HNN.out] at this
                  exact str_run this
                have HCW := Lib.hid hcw
                have hc0 := hcw _ (HW7.out.keep (W' := w7.drew) rfl)
                have HBY := Lib.hid (fun w' (hb : Below w7.heap.size w7 w') => bytes_calls (HS7.out.below hb) HOK7.out)
                clear hcw
                obtain ⟨S, hS⟩ : ∃ S, strOfNums s.b = S := ⟨_, rfl⟩
                have HS_ := Lib.hid hS
                rw [hS] at hc0
                clear hS
                go_wp2_with fail
                go_region_held (fun w' => (convert 22 9 (.slice (some ⟨gw, 0, none⟩) N cw)).run Try.prog w' = .ok (.string S) w' ∧ Hid (Below w7.heap.size w7 w'))
                  (first | with_reducible exact ⟨hc0, Lib.hid (below_drew1 (Below.refl _ _))⟩ | with_reducible exact ⟨hc8, hbb⟩)
                  ((go_at_call 13; go_split_ands; (with_reducible refine (HBY.out _ (Hid.out (by assumption))).mono ?_); rintro e w8 ⟨g8, c8, rfl, k1, k2, k3⟩; rw [sync_crash HI.out] at k2; rw [sync_crash HI.out, HI.out.len, HNN.out]; have hbb := Lib.hid (below_step (Hid.out (by assumption)) k3); have hc8 := HCW.out w8 (HW7.out.keep (hbb.out.block gw (by obtain ⟨ext, hr, _⟩ := HW7.out; exact blk_lt hr))); have hc9 : (convert 22 9 (.slice (some ⟨g8, 0, none⟩) N c8)).run Try.prog w8 = .ok (.string (strOfNums s.b)) w8 := (by have h := k2.CB (by rw [HI.out.len, HNN.out]; omega); rw [HI.out.len, HNN.out] at h; exact str_run h); rw [HS_.out] at hc8 hc9; clear k1 k2 k3))
                go_split_ands
                go_wp2_with fail
                go_ret
                refine ⟨rfl, HB7.out.trans (Below.mono (Hid.out (by assumption)) HB7.out.size)⟩
              · have HWI := Lib.hid (show within s.b.length at_ b.length = false by
                  rw [HI.out.len, HNN.out, HNB.out]
                  cases hh : within N at_ nb with
                  | false => rfl
                  | true => have := within_iff hh; omega)
                go_wp2_with fail
                clear d1 d2
                rw [← HNB.out]
                refine (write_calls HS4.out HO3.out (sync_acts HI.out HIL.out) at_ b (C_arg HBB.out HB4.out) (arg_off (arg_lt HBB.out) HP.out)).mono ?_
                rintro e w5 ⟨he, hs, hf⟩
                rw [sync_write HI.out at_ b HWI.out] at he hs
                subst he
                have HS5 := Lib.hid hs
                have HB5 := Lib.hid (Fr.weaken HB4.out hf HP.out.1 HP.out.2.1 HP.out.2.2 (Nat.le_refl _))
                have HW5 := Lib.hid (HW4.out.keep (hf.block gw (by obtain ⟨ext, hr, _⟩ := HW4.out; exact blk_lt hr) (by have := HGW.out; omega) (by have := HGW.out; omega) (by have := HGW.out; omega)))
                clear hs hf
                go_wp2_with (go_at_call 14; refine (loose_calls HS5.out HO3.out).mono ?_; rintro e w6 ⟨v, rfl, hv, hb⟩; rw [sync_wet HI.out] at hv; obtain ⟨Av, cv, rfl, _, _⟩ := Kd.R_reads hv; have HS6 := Lib.hid (HS5.out.below hb); have HB6 := Lib.hid (HB5.out.trans (hb.mono HB5.out.size)); have HW6 := Lib.hid (HW5.out.keep (hb.block gw (by obtain ⟨ext, hr, _⟩ := HW5.out; exact blk_lt hr))); clear hv hb)
                refine (crash_calls HS6.out HO3.out keep (C_arg HK.out HB6.out) (arg_off (cbool_lt HK.out) HP.out)).mono ?_
                rintro e w7 ⟨rfl, hs, hf⟩
                have HS7 := Lib.hid hs
                have HB7 := Lib.hid (Fr.weaken HB6.out hf HP.out.1 HP.out.2.1 HP.out.2.2 (Nat.le_refl _))
                have HW7 := Lib.hid (HW6.out.keep (hf.block gw (by obtain ⟨ext, hr, _⟩ := HW6.out; exact blk_lt hr) (by have := HGW.out; omega) (by have := HGW.out; omega) (by have := HGW.out; omega)))
                clear hs hf
                have HOK7 := Lib.hid (ok_crash HO3.out keep)
                have hcw : ∀ w', Row w' gw cw s.b → (convert 22 9 (.slice (some ⟨gw, 0, none⟩) N cw)).run Try.prog w' = .ok (.string (strOfNums s.b)) w' := fun w' h => by
                  have := h.CB (by rw [HI.out.len, HNN.out]; omega)
                  rw [HI.out.len, HNN.out] at this
                  exact str_run this
                have HCW := Lib.hid hcw
                have hc0 := hcw _ (HW7.out.keep (W' := w7.drew) rfl)
                have HBY := Lib.hid (fun w' (hb : Below w7.heap.size w7 w') => bytes_calls (HS7.out.below hb) HOK7.out)
                clear hcw
                obtain ⟨S, hS⟩ : ∃ S, strOfNums s.b = S := ⟨_, rfl⟩
                have HS_ := Lib.hid hS
                rw [hS] at hc0
                clear hS
                go_wp2_with fail
                go_region_held (fun w' => (convert 22 9 (.slice (some ⟨gw, 0, none⟩) N cw)).run Try.prog w' = .ok (.string S) w' ∧ Hid (Below w7.heap.size w7 w'))
                  (first | with_reducible exact ⟨hc0, Lib.hid (below_drew1 (Below.refl _ _))⟩ | with_reducible exact ⟨hc8, hbb⟩)
                  ((go_at_call 13; go_split_ands; (with_reducible refine (HBY.out _ (Hid.out (by assumption))).mono ?_); rintro e w8 ⟨g8, c8, rfl, k1, k2, k3⟩; rw [sync_crash HI.out] at k2; rw [sync_crash HI.out, HI.out.len, HNN.out]; have hbb := Lib.hid (below_step (Hid.out (by assumption)) k3); have hc8 := HCW.out w8 (HW7.out.keep (hbb.out.block gw (by obtain ⟨ext, hr, _⟩ := HW7.out; exact blk_lt hr))); have hc9 : (convert 22 9 (.slice (some ⟨g8, 0, none⟩) N c8)).run Try.prog w8 = .ok (.string (strOfNums s.b)) w8 := (by have h := k2.CB (by rw [HI.out.len, HNN.out]; omega); rw [HI.out.len, HNN.out] at h; exact str_run h); rw [HS_.out] at hc8 hc9; clear k1 k2 k3))
                go_split_ands
                go_wp2_with fail
                go_ret
                refine ⟨rfl, HB7.out.trans (Below.mono (Hid.out (by assumption)) HB7.out.size)⟩
              · have HWI := Lib.hid (show within s.b.length at_ b.length = false by
                  rw [HI.out.len, HNN.out, HNB.out]
                  cases hh : within N at_ nb with
                  | false => rfl
                  | true => have := within_iff hh; omega)
                go_wp2_with fail
                clear d1 d2 d3
                rw [← HNB.out]
                refine (write_calls HS4.out HO3.out (sync_acts HI.out HIL.out) at_ b (C_arg HBB.out HB4.out) (arg_off (arg_lt HBB.out) HP.out)).mono ?_
                rintro e w5 ⟨he, hs, hf⟩
                rw [sync_write HI.out at_ b HWI.out] at he hs
                subst he
                have HS5 := Lib.hid hs
                have HB5 := Lib.hid (Fr.weaken HB4.out hf HP.out.1 HP.out.2.1 HP.out.2.2 (Nat.le_refl _))
                have HW5 := Lib.hid (HW4.out.keep (hf.block gw (by obtain ⟨ext, hr, _⟩ := HW4.out; exact blk_lt hr) (by have := HGW.out; omega) (by have := HGW.out; omega) (by have := HGW.out; omega)))
                clear hs hf
                go_wp2_with (go_at_call 14; refine (loose_calls HS5.out HO3.out).mono ?_; rintro e w6 ⟨v, rfl, hv, hb⟩; rw [sync_wet HI.out] at hv; obtain ⟨Av, cv, rfl, _, _⟩ := Kd.R_reads hv; have HS6 := Lib.hid (HS5.out.below hb); have HB6 := Lib.hid (HB5.out.trans (hb.mono HB5.out.size)); have HW6 := Lib.hid (HW5.out.keep (hb.block gw (by obtain ⟨ext, hr, _⟩ := HW5.out; exact blk_lt hr))); clear hv hb)
                refine (crash_calls HS6.out HO3.out keep (C_arg HK.out HB6.out) (arg_off (cbool_lt HK.out) HP.out)).mono ?_
                rintro e w7 ⟨rfl, hs, hf⟩
                have HS7 := Lib.hid hs
                have HB7 := Lib.hid (Fr.weaken HB6.out hf HP.out.1 HP.out.2.1 HP.out.2.2 (Nat.le_refl _))
                have HW7 := Lib.hid (HW6.out.keep (hf.block gw (by obtain ⟨ext, hr, _⟩ := HW6.out; exact blk_lt hr) (by have := HGW.out; omega) (by have := HGW.out; omega) (by have := HGW.out; omega)))
                clear hs hf
                have HOK7 := Lib.hid (ok_crash HO3.out keep)
                have hcw : ∀ w', Row w' gw cw s.b → (convert 22 9 (.slice (some ⟨gw, 0, none⟩) N cw)).run Try.prog w' = .ok (.string (strOfNums s.b)) w' := fun w' h => by
                  have := h.CB (by rw [HI.out.len, HNN.out]; omega)
                  rw [HI.out.len, HNN.out] at this
                  exact str_run this
                have HCW := Lib.hid hcw
                have hc0 := hcw _ (HW7.out.keep (W' := w7.drew) rfl)
                have HBY := Lib.hid (fun w' (hb : Below w7.heap.size w7 w') => bytes_calls (HS7.out.below hb) HOK7.out)
                clear hcw
                obtain ⟨S, hS⟩ : ∃ S, strOfNums s.b = S := ⟨_, rfl⟩
                have HS_ := Lib.hid hS
                rw [hS] at hc0
                clear hS
                go_wp2_with fail
                go_region_held (fun w' => (convert 22 9 (.slice (some ⟨gw, 0, none⟩) N cw)).run Try.prog w' = .ok (.string S) w' ∧ Hid (Below w7.heap.size w7 w'))
                  (first | with_reducible exact ⟨hc0, Lib.hid (below_drew1 (Below.refl _ _))⟩ | with_reducible exact ⟨hc8, hbb⟩)
                  ((go_at_call 13; go_split_ands; (with_reducible refine (HBY.out _ (Hid.out (by assumption))).mono ?_); rintro e w8 ⟨g8, c8, rfl, k1, k2, k3⟩; rw [sync_crash HI.out] at k2; rw [sync_crash HI.out, HI.out.len, HNN.out]; have hbb := Lib.hid (below_step (Hid.out (by assumption)) k3); have hc8 := HCW.out w8 (HW7.out.keep (hbb.out.block gw (by obtain ⟨ext, hr, _⟩ := HW7.out; exact blk_lt hr))); have hc9 : (convert 22 9 (.slice (some ⟨g8, 0, none⟩) N c8)).run Try.prog w8 = .ok (.string (strOfNums s.b)) w8 := (by have h := k2.CB (by rw [HI.out.len, HNN.out]; omega); rw [HI.out.len, HNN.out] at h; exact str_run h); rw [HS_.out] at hc8 hc9; clear k1 k2 k3))
                go_split_ands
                go_wp2_with fail
                go_ret
                refine ⟨rfl, HB7.out.trans (Below.mono (Hid.out (by assumption)) HB7.out.size)⟩
              · go_wp2_with fail
                clear d1 d2 d3
                have HS6 := HS4
                have HB6 := HB4
                have HW6 := HW4
                have HD6 : True := trivial
                obtain ⟨w6, hw6⟩ : ∃ w, w = w4 := ⟨_, rfl⟩
                rw [← hw6] at HS6 HB6 HW6 ⊢
                clear hw6
                refine (crash_calls HS6.out HO3.out keep (C_arg HK.out HB6.out) (arg_off (cbool_lt HK.out) HP.out)).mono ?_
                rintro e w7 ⟨rfl, hs, hf⟩
                have HS7 := Lib.hid hs
                have HB7 := Lib.hid (Fr.weaken HB6.out hf HP.out.1 HP.out.2.1 HP.out.2.2 (Nat.le_refl _))
                have HW7 := Lib.hid (HW6.out.keep (hf.block gw (by obtain ⟨ext, hr, _⟩ := HW6.out; exact blk_lt hr) (by have := HGW.out; omega) (by have := HGW.out; omega) (by have := HGW.out; omega)))
                clear hs hf
                have HOK7 := Lib.hid (ok_crash HO3.out keep)
                have hcw : ∀ w', Row w' gw cw s.b → (convert 22 9 (.slice (some ⟨gw, 0, none⟩) N cw)).run Try.prog w' = .ok (.string (strOfNums s.b)) w' := fun w' h => by
                  have := h.CB (by rw [HI.out.len, HNN.out]; omega)
                  rw [HI.out.len, HNN.out] at this
                  exact str_run this
                have HCW := Lib.hid hcw
                have hc0 := hcw _ (HW7.out.keep (W' := w7.drew) rfl)
                have HBY := Lib.hid (fun w' (hb : Below w7.heap.size w7 w') => bytes_calls (HS7.out.below hb) HOK7.out)
                clear hcw
                obtain ⟨S, hS⟩ : ∃ S, strOfNums s.b = S := ⟨_, rfl⟩
                have HS_ := Lib.hid hS
                rw [hS] at hc0
                clear hS
                go_wp2_with fail
                go_region_held (fun w' => (convert 22 9 (.slice (some ⟨gw, 0, none⟩) N cw)).run Try.prog w' = .ok (.string S) w' ∧ Hid (Below w7.heap.size w7 w'))
                  (first | with_reducible exact ⟨hc0, Lib.hid (below_drew1 (Below.refl _ _))⟩ | with_reducible exact ⟨hc8, hbb⟩)
                  ((go_at_call 13; go_split_ands; (with_reducible refine (HBY.out _ (Hid.out (by assumption))).mono ?_); rintro e w8 ⟨g8, c8, rfl, k1, k2, k3⟩; rw [sync_crash HI.out] at k2; rw [sync_crash HI.out, HI.out.len, HNN.out]; have hbb := Lib.hid (below_step (Hid.out (by assumption)) k3); have hc8 := HCW.out w8 (HW7.out.keep (hbb.out.block gw (by obtain ⟨ext, hr, _⟩ := HW7.out; exact blk_lt hr))); have hc9 : (convert 22 9 (.slice (some ⟨g8, 0, none⟩) N c8)).run Try.prog w8 = .ok (.string (strOfNums s.b)) w8 := (by have h := k2.CB (by rw [HI.out.len, HNN.out]; omega); rw [HI.out.len, HNN.out] at h; exact str_run h); rw [HS_.out] at hc8 hc9; clear k1 k2 k3))
                go_split_ands
                go_wp2_with fail
                go_ret
                refine ⟨rfl, HB7.out.trans (Below.mono (Hid.out (by assumption)) HB7.out.size)⟩
end Go.Proofs.Ytpchobikpamfcaa.Sk
