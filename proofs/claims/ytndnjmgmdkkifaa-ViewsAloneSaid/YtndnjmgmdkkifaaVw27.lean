/- The walk of ViewsAlone. -/
import Derived.Test.YtndnjmgmdkkifaaVw26
import Derived.Outline
import Derived.Deep.Cut
import Derived.Deep.CutRange
import Derived.Deep.CutBlock
namespace Go.Proofs.Ytndnjmgmdkkifaa.Vw1
open Go Go.RowKit Go.Maps Go.Proofs Go.Proofs.Ytndnjmgmdkkifaa.New Go.Proofs.Ytndnjmgmdkkifaa.Vw Go.Proofs.Ytndnjmgmdkkifaa.Vw0 Go.Proofs.Ytndnjmgmdkkifaa.Q Go.Proofs.YtndnjmgmdkkifaaW.PrintWords Go.Proofs.YtndnjmgmdkkifaaW.PrintLast Go.Proofs.YtndnjmgmdkkifaaW.PrintMore
set_option linter.unusedVariables false
set_option linter.unusedSimpArgs false

theorem field2 (a b c : Value) (w : World) : (Instr.field 24 (.agg #[a, b, c]) 2).run Try.prog w = .ok c w := by kernel_rfl
set_option maxHeartbeats 8000000 in
set_option maxRecDepth 100000 in
theorem alone_walk {W : World} (A0 : Option Addr) (c0 : Nat) (es : Log) (A1 : Option Addr) (c1 : Nat) (ts : List Int) (h0 : Kd.C Kd.string W A0 es.length es) (h1 : Kd.C (Kd.int .u8) W A1 ts.length ts) (hl0 : es.length ≤ 1000000000000000) (hl1 : ts.length ≤ 1000000000000000) (hb1 : ∀ y ∈ ts, 0 ≤ y ∧ y ≤ 255) (hs0 : ∀ y ∈ es, y.size ≤ 140737488355328) :
    Calls Try.prog 7 #[.slice A0 es.length c0, .slice A1 ts.length c1] W fun e w' => e = .returned (.bool true) ∧ Below W.heap.size W w' := by
  have HHD := Lib.hid (fun w => head_calls w)
  have H0 := Lib.hid h0
  have H1 := Lib.hid h1
  have HB1 := Lib.hid hb1
  have HS0 := Lib.hid hs0
  clear h0 h1 hb1 hs0
  go_enter Try.func7, Try.ntmps7
  go_wp2_with fail
  refine (HHD.out _).mono ?_
  rintro e w1 ⟨rfl, hb1⟩
  have HBW := Lib.hid hb1
  clear hb1 HHD
  go_wp2_with fail
  refine (new_empty _ (s := al 0 []) rfl).mono ?_
  rintro e w2 ⟨p, rfl, hp, hb2⟩
  have HP := Lib.hid hp
  have HB2 := Lib.hid (below_step HBW.out hb2)
  have HZ := Lib.hid HBW.out.size
  obtain ⟨B, hBB⟩ : ∃ B, w1.heap.size = B := ⟨_, rfl⟩
  rw [hBB] at HP HZ
  clear hp hb2 hBB
  by_cases hc : es.length > 200
  · have hcd : decide ((es.length : Int) > 200) = true := decide_eq_true (by omega)
    go_wp2_with fail
    go_ret
    exact ⟨rfl, HB2.out⟩
  · have hcd : decide ((es.length : Int) > 200) = false := decide_eq_false (by omega)
    go_wp2_with fail
    clear hcd
    go_loopg [7, 8, 9] (es.length) (fun gg s7 s8 s9 wr => ∃ (i : Nat) (v : Int) (L : Log), i ≤ es.length ∧ es.length - i ≤ gg ∧ s9 = .int .i64 i ∧ s8 = .int .i64 (bytesN L : Nat) ∧ Hid (∃ A c, s7 = .slice A L.length c) ∧ Hid (0 ≤ v ∧ v ≤ i) ∧ Hid (rightL L = true) ∧ Hid (Kd.R Kd.string 9 wr B (fun _ => True) s7 L) ∧ Hid (Apart wr p s7) ∧ Hid (Pt B wr p (al v L)) ∧ Hid (Below W.heap.size W wr))
    case atStart => exact ⟨0, 0, [], Nat.zero_le _, by omega, rfl, rfl, ⟨none, 0, rfl⟩, (show Hid _ from ⟨by omega, by omega⟩), (show Hid _ from (show rightL [] = true by decide)), Kd.R_nil _ _ _ _ _, (show Hid _ from fun g _ e => by cases e), HP.out, HB2.out⟩
    case round =>
      clear HP HB2
      obtain ⟨i, v, L, hi, hg, rfl, rfl, HSL, HV, HL, HR, HA, HP, HB⟩ := hrel
      obtain ⟨A7, c7, e7⟩ := HSL.out
      subst e7
      obtain ⟨W1, rfl⟩ : ∃ W1 : World, W1 = wr := ⟨_, rfl⟩
      have hbl : bytesN L ≤ 14000 := by
        have := HL.out
        unfold rightL at this
        simp only [Bool.and_eq_true, decide_eq_true_eq] at this
        exact this.2.2
      have hll := rightL_len HL.out
      by_cases hlt : i < es.length
      · have hltz : (i : Int) < (es.length : Int) := by omega
        obtain ⟨ad, ea, hx⟩ := Kd.at_string (Kd.C_below H0.out HB.out) (i : Int) (by omega) (by omega)
        have hrd : rdOf ByteArray.empty es (i : Int) = es[i] := by unfold rdOf; simp [hlt]
        have hbx := HS0.out es[i] (List.getElem_mem hlt)
        rw [hrd] at hx
        rw [Int.toNat_natCast] at hx
        obtain ⟨x, hxx⟩ : ∃ x, es[i] = x := ⟨_, rfl⟩
        rw [hxx] at hx hbx
        have HXX := Lib.hid hxx
        clear hrd hxx
        cases ea
        by_cases hbig : x.size > 9000
        · have hbz : decide ((x.size : Int) > 9000) = true := decide_eq_true (by omega)
          go_wp2_with fail
          go_ret
          exact ⟨rfl, HB.out⟩
        · have hbz : decide ((x.size : Int) > 9000) = false := decide_eq_false (by omega)
          have hq : (i < ts.length ∧ ∃ ad', A1 = some ad' ∧ ∃ y : Int, 0 ≤ y ∧ y ≤ 255 ∧ W1.cell? (ad'.add i) = some (.int .u8 y)) ∨ ¬ i < ts.length := by
            by_cases c : i < ts.length
            · left
              obtain ⟨ad2, ea2, hy⟩ := Kd.at_int (Kd.C_below H1.out HB.out) (i : Int) (by omega) (by omega)
              rw [Int.toNat_natCast] at hy
              have hrx : rd ts (i : Int) = ts[i] := by unfold rd; rw [Int.toNat_natCast, List.getD_eq_getElem?_getD, List.getElem?_eq_getElem c]; rfl
              rw [hrx] at hy
              exact ⟨c, ad2, ea2, ts[i], (HB1.out ts[i] (List.getElem_mem c)).1, (HB1.out ts[i] (List.getElem_mem c)).2, hy⟩
            · exact .inr c
          have HQ := Lib.hid hq
          clear hq
          go_upto_region 12 with (fail)
          (try simp only [Act.put, List.setIfInBounds_toArray, List.set_cons_zero, List.set_cons_succ])
          go_cut [51] (fun v51 wc => (∃ q : Bool, v51 = .bool q) ∧ wc = W1)
          case first => as_aux_lemma =>
            rcases HQ.out with ⟨k1, ad', rfl, y, k2, k3, hy⟩ | k1
            · have k1z : decide ((i : Int) < (ts.length : Int)) = true := decide_eq_true (by omega)
              have k1y : (i : Int) < (ts.length : Int) := by omega
              have hq0 : 0 ≤ y % 3 := by omega
              have hq1 : y % 3 ≤ 2 := by omega
              go_wp2_with fail
              go_meet
              case rel => exact ⟨⟨_, rfl⟩, rfl⟩
            · have k1z : decide ((i : Int) < (ts.length : Int)) = false := decide_eq_false (by omega)
              go_wp2_with fail
              go_meet
              case rel => exact ⟨⟨_, rfl⟩, rfl⟩
          case rest =>
          clear HQ
          obtain ⟨⟨q, rfl⟩, hwc⟩ := hcut
          subst hwc
          go_upto_if 51 with (fail)
          go_cut [9] (fun v9 wc => v9 = .int .i64 i ∧ ∃ v' : Int, Hid (0 ≤ v' ∧ v' ≤ i + 1) ∧ Hid (Kd.R Kd.string 9 wc B (fun _ => True) (.slice A7 L.length c7) L) ∧ Hid (Apart wc p (.slice A7 L.length c7)) ∧ Hid (Pt B wc p (al v' L)) ∧ Hid (Below W.heap.size W wc))
          case first => as_aux_lemma =>
            cases q with
            | true =>
              have h := pt_turnL HP.out
              rw [al_turn v L (by have := HV.out; omega)] at h
              go_wp2_with fail
              refine h.mono ?_
              rintro e w3 ⟨rfl, hp, hs, hlg⟩
              have HR3 := Lib.hid (R_stp HR.out HP.out hs)
              have HA3 := Lib.hid (HA.out.step HR.out hlg)
              have HP3 := Lib.hid hp
              have HB3 := Lib.hid (HB.out.trans (hs.below.mono HZ.out))
              clear hp hs hlg h
              go_wp2_with fail
              go_meet
              case rel => exact ⟨rfl, v + 1, ⟨by have := HV.out; omega, by have := HV.out; omega⟩, HR3.out, HA3.out, HP3.out, HB3.out⟩
            | false =>
              go_wp2_with fail
              go_meet
              case rel => exact ⟨rfl, v, ⟨by have := HV.out; omega, by have := HV.out; omega⟩, HR.out, HA.out, HP.out, HB.out⟩
          case rest =>
          clear HR HA HP HB HV hx
          obtain ⟨rfl, v', HV, HR, HA, HP, HB⟩ := hcut
          obtain ⟨W2, rfl⟩ : ∃ W2 : World, W2 = wc := ⟨_, rfl⟩
          obtain ⟨ad3, ea3, hx⟩ := Kd.at_string (Kd.C_below H0.out HB.out) (i : Int) (by omega) (by omega)
          have hrd : rdOf ByteArray.empty es (i : Int) = es[i] := by unfold rdOf; simp [hlt]
          rw [hrd, HXX.out, Int.toNat_natCast] at hx
          clear hrd
          cases ea3
          have h := pt_proposeL HP.out x hbx
          rw [al_propose] at h
          have hfit := fits_is HL.out x
          have hby := bytes_app L x
          have hlen : (L ++ [x]).length = L.length + 1 := by simp
          obtain ⟨L2, hL2⟩ : ∃ L2, L ++ [x] = L2 := ⟨_, rfl⟩
          rw [hL2] at h hfit hby hlen
          have HPR := Lib.hid h
          have HFI := Lib.hid hfit
          have HBY := Lib.hid hby
          have HLE := Lib.hid hlen
          have HL2 := Lib.hid hL2
          clear h hfit hby hlen hL2
          go_wp2_with fail
          refine HPR.out.mono ?_
          rintro e w4 ⟨he, hp, hs, hlg⟩
          have HR4 := Lib.hid (R_stp HR.out HP.out hs)
          have HA4 := Lib.hid (HA.out.step HR.out hlg)
          have HB4 := Lib.hid (HB.out.trans (hs.below.mono HZ.out))
          have HZ4 := Lib.hid (Nat.le_trans (pt_size HP.out) hs.below.size)
          clear hs hlg HR HA HP HPR hx HB
          obtain ⟨ad4, ea4, hx⟩ := Kd.at_string (Kd.C_below H0.out HB4.out) (i : Int) (by omega) (by omega)
          have hrd : rdOf ByteArray.empty es (i : Int) = es[i] := by unfold rdOf; simp [hlt]
          rw [hrd, HXX.out, Int.toNat_natCast] at hx
          clear hrd
          cases ea4
          obtain ⟨hC7, hcc7⟩ : Kd.C Kd.string w4 A7 L.length L ∧ L.length ≤ c7 := by
            obtain ⟨A, c, e, h1, h2⟩ := Kd.R_reads HR4.out
            cases e
            exact ⟨h2, h1⟩
          have HC7 := Lib.hid hC7
          clear hC7
          have hxs : x.size ≤ 9000 := by omega
          have hSt : (al v' L).stays = L.length := rfl
          have hSt2 : (al v' L2).stays = L2.length := rfl
          by_cases fb : rightL L2 = true
          · have hfs : x.size ≤ 4096 ∧ L.length < 96 ∧ bytesN L + x.size ≤ 14000 := by
              have := HFI.out
              rw [fb] at this
              have := this.symm
              simp only [Bool.and_eq_true, decide_eq_true_eq] at this
              exact this
            have d1 : (x.size : Int) ≤ 4096 := by omega
            have d2 : (L.length : Int) < 96 := by omega
            have d3 : (bytesN L : Int) + (x.size : Int) ≤ 14000 := by omega
            rw [if_pos fb] at he hp
            have HFB := Lib.hid fb
            have HP4 := Lib.hid hp
            dsimp only at he
            subst he
            clear hp fb hfs
            go_wp2_with fail
            refine (pt_first HP4.out).mono ?_
            rintro e w5 ⟨he, ⟨m5, rfl⟩⟩
            rw [al_first] at he
            subst he
            have hx5 : (w4.drewN m5).cell? (ad.add i) = some (.string x) := hx
            go_wp2_with (at_builtin; refine Kd.R_append Kd.string (w0 := w4.drewN m5) B rfl (.tmp 90) (.tmp 95) 22 9 (.string ⟨#[]⟩) 16 rfl Try.underlying22 info9 rfl (by decide) (by omega) (.slice A7 L.length c7) L x [.string x] (fun _ => True) (fun _ => False) rfl rfl ?aP0 (fun _ hk => hk.elim) ?aF0 ?aO0 ?aB0 ?aS0 ?aL0 ?aK0; (case aP0 => exact rfl); (case aF0 => exact (fun _ _ => trivial)); (case aO0 => exact HR4.out); (case aB0 => exact Below.refl _ _); (case aS0 => exact HZ4.out); (case aL0 => omega); (intro v1 w6 ho hb hg hat); rw [HL2.out] at ho; have HR6 := Lib.hid ho; have hC6 := Kd.R_reads ho; have HP6 := Lib.hid ((HP4.out.below (pw_below_drewN (Below.refl _ _) m5)).grown (by unfold al; simp) (W := w4.drewN m5) HR4.out HA4.out hg); have HA6 := Lib.hid (Apart.grown (W := w4.drewN m5) (HP4.out.below (pw_below_drewN (Below.refl _ _) m5)) (show 0 < L2.length by have := HLE.out; omega) HA4.out HR4.out hg hat); have HB6 := Lib.hid ((pw_below_drewN HB4.out m5).trans (hb.mono HZ.out)); obtain ⟨A6, c6, rfl, hcc6, hC6⟩ := hC6; have HC6 := Lib.hid hC6; clear ho hb hg hat hC6; obtain ⟨ad6, ea6, hx6⟩ := Kd.at_string (Kd.C_below H0.out HB6.out) (i : Int) (by omega) (by omega); have hrd : rdOf ByteArray.empty es (i : Int) = es[i] := (by unfold rdOf; simp [hlt]); rw [hrd, HXX.out, Int.toNat_natCast] at hx6; clear hrd; cases ea6)
            refine (pt_stays HP6.out).mono ?_
            rintro e w7 ⟨he, rfl⟩
            change e = Ending.returned (.int .i64 (L2.length : Nat)) at he
            subst he
            go_wp2_with fail
            refine (pt_saved HP6.out).mono ?_
            rintro e w8 ⟨A8, c8, he, hr8, hb8⟩
            change e = Ending.returned (.agg #[.int .i64 v', .int .i64 v', .slice A8 L2.length c8]) at he
            change Rd w8 (.slice A8 L2.length c8) L2 at hr8
            subst he
            have hfl := field2
            have HSM := Lib.hid (same_calls A8 c8 L2 A6 c6 L2 hr8.C1.2 (Kd.C_below HC6.out hb8) (by have := HLE.out; omega) (by have := HLE.out; omega))
            rw [(eqL_iff L2 L2).2 rfl] at HSM
            have HR9 := Lib.hid (R_stp HR6.out HP6.out (Stp.of_below hb8 (pt_size HP6.out)))
            have HA9 := Lib.hid (HA6.out.step HR6.out (fun g hg => .inl (by rw [← LogB_of (hb8.block p HP6.out.lt)]; exact hg)))
            have HP9 := Lib.hid (HP6.out.below hb8)
            have HB9 := Lib.hid (below_step HB6.out hb8)
            clear hr8 hb8
            go_wp2_with fail
            refine HSM.out.mono ?_
            rintro e w9 ⟨rfl, ⟨m9, rfl⟩⟩
            go_wp2_with fail
            go_roundg (es.length - (i + 1))
            case measure => omega
            case rel => exact ⟨i + 1, v', L2, by omega, by omega, by go_num, by rw [HBY.out]; go_num, ⟨_, _, rfl⟩, ⟨by have := HV.out; omega, by have := HV.out; omega⟩, HFB.out, HR9.out, HA9.out, HP9.out.below (pw_below_drewN (Below.refl _ _) m9), pw_below_drewN HB9.out m9⟩
          · have fb2 : rightL L2 = false := by simpa using fb
            have hfs : 4096 < x.size ∨ (x.size ≤ 4096 ∧ 96 ≤ L.length) ∨ (x.size ≤ 4096 ∧ L.length < 96 ∧ 14000 < bytesN L + x.size) := by
              have := HFI.out
              rw [fb2] at this
              have := this.symm
              simp only [Bool.and_eq_false_iff, decide_eq_false_iff_not] at this
              omega
            rw [if_neg (by rw [fb2]; decide)] at he hp
            have HP4 := Lib.hid hp
            dsimp only at he
            subst he
            clear hp fb fb2
            go_upto_region 15 with (fail)
            (try simp only [Act.put, List.setIfInBounds_toArray, List.set_cons_zero, List.set_cons_succ])
            have HFS := Lib.hid hfs
            clear hfs
            go_cut [11] (fun v11 wc => v11 = .bool false ∧ wc = w4)
            case first => as_aux_lemma =>
              rcases HFS.out with d1 | ⟨d1, d2⟩ | ⟨d1, d2, d3⟩
              · have e1 : decide ((x.size : Int) ≤ 4096) = false := decide_eq_false (by omega)
                go_wp2_with fail
                go_meet
                case rel => exact ⟨rfl, rfl⟩
              · have e1 : decide ((x.size : Int) ≤ 4096) = true := decide_eq_true (by omega)
                have e2 : decide ((L.length : Int) < 96) = false := decide_eq_false (by omega)
                go_wp2_with fail
                go_meet
                case rel => exact ⟨rfl, rfl⟩
              · have e1 : decide ((x.size : Int) ≤ 4096) = true := decide_eq_true (by omega)
                have e2 : decide ((L.length : Int) < 96) = true := decide_eq_true (by omega)
                have e3 : decide ((bytesN L : Int) + (x.size : Int) ≤ 14000) = false := decide_eq_false (by omega)
                go_wp2_with fail
                go_meet
                case rel => exact ⟨rfl, rfl⟩
            case rest =>
            obtain ⟨rfl, hwc⟩ := hcut
            subst hwc
            go_wp2_with fail
            refine (pt_first HP4.out).mono ?_
            rintro e w5 ⟨he, ⟨m5, rfl⟩⟩
            rw [al_first] at he
            subst he
            have HP5 := Lib.hid (HP4.out.below (pw_below_drewN (Below.refl _ _) m5))
            have HB5 := Lib.hid (pw_below_drewN HB4.out m5)
            have HC5 := Lib.hid (Kd.C_below HC7.out (pw_below_drewN (Below.refl _ _) m5))
            have HR5 := Lib.hid (R_stp HR4.out HP4.out (Stp.of_below (pw_below_drewN (Below.refl _ _) m5) (pt_size HP4.out)))
            have HA5 := Lib.hid (HA4.out.step HR4.out (w' := wc.drewN m5) (fun g hg => .inl hg))
            go_wp2_with fail
            refine (pt_stays HP5.out).mono ?_
            rintro e w7 ⟨he, rfl⟩
            change e = Ending.returned (.int .i64 (L.length : Nat)) at he
            subst he
            go_wp2_with fail
            refine (pt_saved HP5.out).mono ?_
            rintro e w8 ⟨A8, c8, he, hr8, hb8⟩
            change e = Ending.returned (.agg #[.int .i64 v', .int .i64 v', .slice A8 L.length c8]) at he
            change Rd w8 (.slice A8 L.length c8) L at hr8
            subst he
            have hfl := field2
            have HSM := Lib.hid (same_calls A8 c8 L A7 c7 L hr8.C1.2 (Kd.C_below HC5.out hb8) (by omega) (by omega))
            rw [(eqL_iff L L).2 rfl] at HSM
            have HR9 := Lib.hid (R_stp HR5.out HP5.out (Stp.of_below hb8 (pt_size HP5.out)))
            have HA9 := Lib.hid (HA5.out.step HR5.out (fun g hg => .inl (by rw [← LogB_of (hb8.block p HP5.out.lt)]; exact hg)))
            have HP9 := Lib.hid (HP5.out.below hb8)
            have HB9 := Lib.hid (below_step HB5.out hb8)
            clear hr8 hb8
            go_wp2_with fail
            refine HSM.out.mono ?_
            rintro e w9 ⟨rfl, ⟨m9, rfl⟩⟩
            go_wp2_with fail
            go_roundg (es.length - (i + 1))
            case measure => omega
            case rel => exact ⟨i + 1, v', L, by omega, by omega, by go_num, rfl, ⟨_, _, rfl⟩, ⟨by have := HV.out; omega, by have := HV.out; omega⟩, HL.out, HR9.out, HA9.out, HP9.out.below (pw_below_drewN (Below.refl _ _) m9), pw_below_drewN HB9.out m9⟩
      · have hltz : ¬ (i : Int) < (es.length : Int) := by omega
        go_wp2_with fail
        go_ret
        exact ⟨rfl, HB.out⟩
end Go.Proofs.Ytndnjmgmdkkifaa.Vw1
