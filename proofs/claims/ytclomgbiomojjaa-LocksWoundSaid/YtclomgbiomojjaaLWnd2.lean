/- The walk of LocksWound. -/
import Derived.Test.YtclomgbiomojjaaLWnd
namespace Go.Proofs.Ytclomgbiomojjaa.LWnd
open Go Go.RowKit Go.Proofs.Ytclomgbiomojjaa.Split Go.Proofs.Ytclomgbiomojjaa.Q Go.Proofs.Ytclomgbiomojjaa.PathF Go.Proofs.Ytclomgbiomojjaa.LTh Go.Proofs.Ytclomgbiomojjaa.LRef Go.Proofs.Ytclomgbiomojjaa.LLaw Go.Proofs.Ytclomgbiomojjaa.LTake Go.Proofs.YtclomgbiomojjaaW.PrintWords Go.Proofs.YtclomgbiomojjaaW.PrintLast Go.Proofs.YtclomgbiomojjaaW.PrintMore
open Go.Proofs.Ytclomgbiomojjaa.LRgt (num rightB)
open Go.Proofs.Ytclomgbiomojjaa.LSet (Up ltI ordI)
set_option linter.unusedVariables false
set_option linter.unusedSimpArgs false

def cantonlaw10_LocksWound.f (l0 : List S34) (a1 : Int) (a2 : Int) (l3 : List ByteArray) : Option Bool :=
  if (l0.length ≤ 4398046511103 ∧ ∀ y ∈ l0, y.f0.size ≤ 140737488351232) ∧ (Lit.int .i64 a1).wf = true ∧ (Lit.int .i64 a2).wf = true ∧ (l3.length ≤ 8796093022207 ∧ ∀ y ∈ l3, y.size ≤ 140737488351232) then some true else none
set_option maxHeartbeats 8000000 in
set_option maxRecDepth 100000 in
theorem wound_walk (A0 : Option Addr) (c0 : Nat) (l : List S) (a1 a2 : Int) (A3 : Option Addr) (c3 : Nat) (ds : List ByteArray) (w : World) (hr : Kd.C k34 w A0 l.length l) (hc : l.length ≤ c0) (hr3 : Kd.C Kd.string w A3 ds.length ds) (hc3 : ds.length ≤ c3)
    (hl : l.length ≤ 4398046511103) (hs : ∀ y ∈ l, y.f0.size ≤ 140737488351232) (w1 : (Lit.int .i64 a1).wf = true) (w2 : (Lit.int .i64 a2).wf = true) (hd : ds.length ≤ 8796093022207) (hds : ∀ y ∈ ds, y.size ≤ 140737488351232) :
    Calls Try.prog 7 #[.slice A0 l.length c0, .int .i64 a1, .int .i64 a2, .slice A3 ds.length c3] w fun e w' => e = .returned (.bool true) ∧ Below w.heap.size w w' := by
  have HHD := Lib.hid (fun (W : World) => cantonlaw10_head.calls true W cantonlaw10_head.is)
  obtain ⟨bg, hbg, hgr⟩ := great_is l ds (by omega) (by omega) (fun x hx => by have := hs x hx; omega) (fun x hx => by have := hds x hx; omega) (l.length + ds.length + 3) (by omega)
  have HGR := Lib.hid (fun (W : World) (hW : Below w.heap.size w W) => cantonlaw10_great.calls (l.length + ds.length + 3) A0 c0 l A3 c3 ds bg W (Kd.C_below hr hW) hc (Kd.C_below hr3 hW) hc3 hbg)
  have HRT := Lib.hid (fun (W : World) (hW : Below w.heap.size w W) (hb : bg = false) => cantonref10_Right.calls 2100000 A0 c0 l (rightB l) W (Kd.C_below hr hW) hc (LRef.right_is l (by have := (hgr hb).1; omega) (fun x hx => by have := (hgr hb).2.2.1 x hx; omega) 2100000 (Nat.le_refl _)))
  obtain ⟨bR, hbR⟩ : ∃ b, rightB l = b := ⟨_, rfl⟩
  rw [hbR] at HRT
  obtain ⟨q1, hq1⟩ : ∃ b, decide (a1 < 0) = b := ⟨_, rfl⟩
  obtain ⟨q2, hq2⟩ : ∃ b, decide (a2 < 0) = b := ⟨_, rfl⟩
  obtain ⟨q3, hq3⟩ : ∃ b, decide (a1 > 1099511627776) = b := ⟨_, rfl⟩
  obtain ⟨q4, hq4⟩ : ∃ b, decide (a2 > 1099511627776) = b := ⟨_, rfl⟩
  have HBR := Lib.hid hbR
  have HGT := Lib.hid hgr
  have HR := Lib.hid hr
  have HR3 := Lib.hid hr3
  have HC := Lib.hid hc
  have HC3 := Lib.hid hc3
  have HW1 := Lib.hid w1
  have HW2 := Lib.hid w2
  clear hr hc hr3 hc3 hs hds hbg hgr hbR w1 w2
  go_enter Try.func7, Try.ntmps7
  go_wp2_with fail
  refine (HHD.out _).mono ?_
  rintro e w1 ⟨rfl, hb1⟩
  have HB1 := Lib.hid hb1
  clear hb1 HHD
  go_upto_region 2 with (fail)
  (try simp only [Act.put, List.setIfInBounds_toArray, List.set_cons_zero, List.set_cons_succ])
  go_cut [48] (fun v48 wc => v48 = .bool (bg || (!bR || (q1 || (q2 || (q3 || q4))))) ∧ Hid (Below w.heap.size w wc))
  case first => as_aux_lemma =>
    cases bg with
    | true =>
      go_wp2_with fail
      refine (HGR.out _ HB1.out).mono ?_
      rintro e w3 ⟨rfl, hb3⟩
      have HB3 := Lib.hid (below_step HB1.out hb3)
      clear hb3
      go_wp2_with fail
      go_meet
      case rel => exact ⟨by simp, HB3.out⟩
    | false =>
      cases bR with
      | false =>
        go_wp2_with fail
        refine (HGR.out _ HB1.out).mono ?_
        rintro e w3 ⟨rfl, hb3⟩
        have HB3 := Lib.hid (below_step HB1.out hb3)
        clear hb3
        go_wp2_with fail
        refine (HRT.out _ HB3.out (by first | rfl | trivial)).mono ?_
        rintro e w4 ⟨rfl, hb4⟩
        have HB4 := Lib.hid (below_step HB3.out hb4)
        clear hb4
        go_wp2_with fail
        go_meet
        case rel => exact ⟨by simp, HB4.out⟩
      | true =>
        cases q1 with
        | true =>
          go_wp2_with fail
          refine (HGR.out _ HB1.out).mono ?_
          rintro e w3 ⟨rfl, hb3⟩
          have HB3 := Lib.hid (below_step HB1.out hb3)
          clear hb3
          go_wp2_with fail
          refine (HRT.out _ HB3.out (by first | rfl | trivial)).mono ?_
          rintro e w4 ⟨rfl, hb4⟩
          have HB4 := Lib.hid (below_step HB3.out hb4)
          clear hb4
          go_wp2_with fail
          go_meet
          case rel => exact ⟨by simp, HB4.out⟩
        | false =>
          cases q2 with
          | true =>
            go_wp2_with fail
            refine (HGR.out _ HB1.out).mono ?_
            rintro e w3 ⟨rfl, hb3⟩
            have HB3 := Lib.hid (below_step HB1.out hb3)
            clear hb3
            go_wp2_with fail
            refine (HRT.out _ HB3.out (by first | rfl | trivial)).mono ?_
            rintro e w4 ⟨rfl, hb4⟩
            have HB4 := Lib.hid (below_step HB3.out hb4)
            clear hb4
            go_wp2_with fail
            go_meet
            case rel => exact ⟨by simp, HB4.out⟩
          | false =>
            cases q3 with
            | true =>
              go_wp2_with fail
              refine (HGR.out _ HB1.out).mono ?_
              rintro e w3 ⟨rfl, hb3⟩
              have HB3 := Lib.hid (below_step HB1.out hb3)
              clear hb3
              go_wp2_with fail
              refine (HRT.out _ HB3.out (by first | rfl | trivial)).mono ?_
              rintro e w4 ⟨rfl, hb4⟩
              have HB4 := Lib.hid (below_step HB3.out hb4)
              clear hb4
              go_wp2_with fail
              go_meet
              case rel => exact ⟨by simp, HB4.out⟩
            | false =>
              cases q4 with
              | true =>
                go_wp2_with fail
                refine (HGR.out _ HB1.out).mono ?_
                rintro e w3 ⟨rfl, hb3⟩
                have HB3 := Lib.hid (below_step HB1.out hb3)
                clear hb3
                go_wp2_with fail
                refine (HRT.out _ HB3.out (by first | rfl | trivial)).mono ?_
                rintro e w4 ⟨rfl, hb4⟩
                have HB4 := Lib.hid (below_step HB3.out hb4)
                clear hb4
                go_wp2_with fail
                go_meet
                case rel => exact ⟨by simp, HB4.out⟩
              | false =>
                go_wp2_with fail
                refine (HGR.out _ HB1.out).mono ?_
                rintro e w3 ⟨rfl, hb3⟩
                have HB3 := Lib.hid (below_step HB1.out hb3)
                clear hb3
                go_wp2_with fail
                refine (HRT.out _ HB3.out (by first | rfl | trivial)).mono ?_
                rintro e w4 ⟨rfl, hb4⟩
                have HB4 := Lib.hid (below_step HB3.out hb4)
                clear hb4
                go_wp2_with fail
                go_meet
                case rel => exact ⟨by simp, HB4.out⟩
  case rest => as_aux_lemma =>
    obtain ⟨rfl, HB⟩ := hcut
    cases hbad : (bg || (!bR || (q1 || (q2 || (q3 || q4))))) with
    | true =>
      clear hbad
      go_wp2_with fail
      go_ret
      exact ⟨rfl, HB.out⟩
    | false =>
      obtain ⟨rfl, rfl, rfl, rfl, rfl, rfl⟩ : bg = false ∧ bR = true ∧ q1 = false ∧ q2 = false ∧ q3 = false ∧ q4 = false := by
        revert hbad; cases bg <;> cases bR <;> cases q1 <;> cases q2 <;> cases q3 <;> cases q4 <;> simp
      clear hbad
      have hp1 := of_decide_eq_false hq1
      have hp2 := of_decide_eq_false hq2
      have hp3 := of_decide_eq_false hq3
      have hp4 := of_decide_eq_false hq4
      clear hq1 hq2 hq3 hq4
      obtain ⟨hl2, hd2, _, _⟩ := HGT.out rfl
      have hRH := (right_iff l).1 HBR.out
      have htf := take_f hRH HW1.out HW2.out (ds := ds) (by omega)
      have htk := took l a1 a2 ds
      obtain ⟨⟨r1, W, is⟩, hT⟩ : ∃ r, takeP l a1 a2 ds = r := ⟨_, rfl⟩
      rw [hT] at htf htk
      have HTC := Lib.hid (fun (V : World) (hV : Below w.heap.size w V) => take_C A0 c0 l a1 a2 A3 c3 ds r1 W is htf HC.out HC3.out V (Kd.C_below HR.out hV) (Kd.C_below HR3.out hV))
      have HTK := Lib.hid htk
      have HRH := Lib.hid hRH
      clear htf htk hRH hT HBR HGT HGR HRT
      go_wp2_with fail
      refine (HTC.out _ HB.out).mono ?_
      rintro e w5 ⟨A5, c5, A6, c6, rfl, hc5, hr5, hc6, hr6, hb5⟩
      have HB5 := Lib.hid (below_step HB.out hb5.out)
      clear hb5 HTC
      have hcases : (is = true ∨ r1.length = 0) ∧ W = [] ∨ is = false ∧ r1 = l ∧ l.length ≠ 0 ∧ Wait l a1 a2 ds W := by
        rcases HTK.out with ⟨g, e⟩ | ⟨g, gf, m, e, hm, hr⟩ | ⟨g, x, hx, hdx, hn, V, e, hu, hV⟩
        · cases e; exact .inl ⟨.inr rfl, rfl⟩
        · cases e; exact .inl ⟨.inl rfl, rfl⟩
        · cases e; exact .inr ⟨rfl, rfl, (fun e => by rw [List.length_eq_zero_iff] at e; rw [e] at hx; cases hx), ⟨g, hu, hV⟩⟩
      have HCS := Lib.hid hcases
      clear hcases HTK
      by_cases hgo : is = false ∧ r1 = l ∧ l.length ≠ 0 ∧ Wait l a1 a2 ds W
      · obtain ⟨rfl, hr1, hl0, hWt⟩ := hgo
        obtain rfl : l = r1 := hr1.symm
        clear hr1
        have hz0 : (((l.length : Nat) : Int) == 0) = false := beq_eq_false_iff_ne.2 (by omega)
        have HWT := Lib.hid hWt
        have HL0 := Lib.hid hl0
        clear HCS hWt hl0
        go_wp2_with fail
        clear hz0
        go_loopg [13, 14] (W.length) (fun gg s13 s14 wr => ∃ (i : Nat) (A' : Option Addr) (c' : Nat), i ≤ W.length ∧ W.length - i ≤ gg ∧ s14 = .int .i64 i ∧ s13 = .slice A' (freeAll l (W.take i)).length c' ∧ Hid ((freeAll l (W.take i)).length ≤ c') ∧ Hid (Kd.C k34 wr A' (freeAll l (W.take i)).length (freeAll l (W.take i))) ∧ Hid (Below w5.heap.size w5 wr))
        case atStart => exact ⟨0, A0, c0, Nat.zero_le _, by omega, rfl, rfl, HC.out, Kd.C_below HR.out HB5.out, Below.refl _ _⟩
        case round => as_aux_lemma =>
          obtain ⟨i, A', c', hi, hg, rfl, rfl, hC', hR', hBi⟩ := hrel
          have hml := len_freeAll (W.take i) l
          have hWm : W.length ≤ 9223372036854775807 := hr6.out.2.1
          by_cases hlt : i < W.length
          · have hltz : (i : Int) < (W.length : Int) := by omega
            obtain ⟨adw, eaw, hw0⟩ := Kd.at_int hr6.out (i : Int) (by omega) (by omega)
            simp only [Int.toNat_natCast] at hw0
            cases eaw
            obtain ⟨t, ht⟩ : ∃ t, Go.Proofs.YtclomgbiomojjaaW.PrintWords.rd W (i : Int) = t := ⟨_, rfl⟩
            have htW : W[i] = t := by rw [← ht]; unfold Go.Proofs.YtclomgbiomojjaaW.PrintWords.rd; simp [hlt]
            rw [ht] at hw0
            have HTW := Lib.hid htW
            have HOWN := Lib.hid (HWT.out.own (t := t) (by rw [← htW]; exact List.getElem_mem hlt))
            have HFS := Lib.hid (show freeAll l (W.take (i + 1)) = freeP (freeAll l (W.take i)) t by rw [freeAll_snoc l W i hlt, htW])
            obtain ⟨m, hm⟩ : ∃ m, freeAll l (W.take i) = m := ⟨_, rfl⟩
            rw [hm] at hC' hR' hml HFS ⊢
            clear ht htW hm
            obtain ⟨wo, rfl⟩ : ∃ wo : World, wo = wr := ⟨_, rfl⟩
            have hwi := pw_cell_below hBi.out hw0
            clear hw0
            go_wp2_with fail
            go_loopg [15, 16] (l.length) (fun gg s15 s16 wr => ∃ k : Nat, k ≤ l.length ∧ l.length - k ≤ gg ∧ s16 = .int .i64 k ∧ s15 = .bool (anyTo (P1 t a1 a2) l ds k 0) ∧ Hid (Below wo.heap.size wo wr))
            case atStart => exact ⟨0, Nat.zero_le _, by omega, rfl, by simp [anyTo], Below.refl _ _⟩
            case round => as_aux_lemma =>
              obtain ⟨k, hk, hg2, rfl, rfl, hBk⟩ := hrel
              by_cases hltk : k < l.length
              · have hltkz : (k : Int) < (l.length : Int) := by omega
                have HOUT := Lib.hid (any_out (P1 t a1 a2) l ds k hltk)
                obtain ⟨w2o, rfl⟩ : ∃ wo : World, wo = wr := ⟨_, rfl⟩
                go_wp2_with fail
                go_loopg [15, 17] (ds.length) (fun gg s15 s17 wr => ∃ j : Nat, j ≤ ds.length ∧ ds.length - j ≤ gg ∧ s17 = .int .i64 j ∧ s15 = .bool (anyTo (P1 t a1 a2) l ds k j) ∧ Hid (Below wo.heap.size wo wr))
                case atStart => exact ⟨0, Nat.zero_le _, by omega, rfl, rfl, hBk.out⟩
                case round => as_aux_lemma =>
                  obtain ⟨j, hj, hg3, rfl, rfl, hBj⟩ := hrel
                  by_cases hltj : j < ds.length
                  · have hltjz : (j : Int) < (ds.length : Int) := by omega
                    have hin := any_in (P1 t a1 a2) l ds k j hltj
                    obtain ⟨o, ho⟩ : ∃ o, anyTo (P1 t a1 a2) l ds k j = o := ⟨_, rfl⟩
                    rw [ho] at hin ⊢
                    have hBB := below_then HB5.out HB5.out.size (below_then hBi.out hBi.out.size hBj.out)
                    obtain ⟨adx, eax, hx0, hx1, hx2⟩ := at_T34 HR.out (k : Int) (by omega) (by omega)
                    obtain ⟨ady, eay, hy0⟩ := Kd.at_string HR3.out (j : Int) (by omega) (by omega)
                    replace hx0 := pw_cell_below hBB hx0
                    replace hx1 := pw_cell_below hBB hx1
                    replace hx2 := pw_cell_below hBB hx2
                    replace hy0 := pw_cell_below hBB hy0
                    have hwj := pw_cell_below hBj.out hwi
                    simp only [Int.toNat_natCast] at hx0 hx1 hx2 hy0
                    obtain ⟨d, hd⟩ : ∃ d, rdOf ByteArray.empty ds (j : Int) = d := ⟨_, rfl⟩
                    obtain ⟨x, hx⟩ : ∃ x, rd_T34 l (k : Int) = x := ⟨_, rfl⟩
                    rw [hd] at hy0 hin
                    rw [show rd l (k : Int) = x from hx] at hin
                    rw [hx] at hx0 hx1 hx2
                    clear hd hx ho hBB
                    obtain ⟨x0, x1, x2⟩ := x
                    rw [show P1 t a1 a2 ⟨x0, x1, x2⟩ d = ((x1 == t) && ((x0.toList == d.toList) && (decide (x2 > a2) || ((x2 == a2) && decide (x1 > a1))))) from rfl] at hin
                    obtain ⟨b1, hb1⟩ : ∃ b, (x1 == t) = b := ⟨_, rfl⟩
                    obtain ⟨b2, hb2⟩ : ∃ b, (x0.toList == d.toList) = b := ⟨_, rfl⟩
                    obtain ⟨b3, hb3⟩ : ∃ b, decide (x2 > a2) = b := ⟨_, rfl⟩
                    obtain ⟨b4, hb4⟩ : ∃ b, (x2 == a2) = b := ⟨_, rfl⟩
                    obtain ⟨b5, hb5⟩ : ∃ b, decide (x1 > a1) = b := ⟨_, rfl⟩
                    rw [hb1, hb2, hb3, hb4, hb5] at hin
                    have HIN := Lib.hid hin
                    clear hin
                    cases eax
                    cases eay
                    cases o with
                    | true =>
                      go_wp2_with fail
                      go_quiet (fail)
                      go_wp2_with fail
                      go_roundg (ds.length - (j + 1))
                      case measure => omega
                      case rel => exact ⟨j + 1, by omega, by omega, by go_num, by rw [HIN.out]; simp, pw_below_drewN hBj.out _⟩
                    | false =>
                      cases b1 with
                      | true =>
                        cases b2 with
                        | true =>
                          cases b3 with
                          | true =>
                            go_wp2_with fail
                            go_quiet (fail)
                            go_wp2_with fail
                            go_roundg (ds.length - (j + 1))
                            case measure => omega
                            case rel => exact ⟨j + 1, by omega, by omega, by go_num, by rw [HIN.out]; simp, pw_below_drewN hBj.out _⟩
                          | false =>
                            cases b4 with
                            | true =>
                              cases b5 with
                              | true =>
                                go_wp2_with fail
                                go_quiet (fail)
                                go_wp2_with fail
                                go_roundg (ds.length - (j + 1))
                                case measure => omega
                                case rel => exact ⟨j + 1, by omega, by omega, by go_num, by rw [HIN.out]; simp, pw_below_drewN hBj.out _⟩
                              | false =>
                                go_wp2_with fail
                                go_quiet (fail)
                                go_wp2_with fail
                                go_roundg (ds.length - (j + 1))
                                case measure => omega
                                case rel => exact ⟨j + 1, by omega, by omega, by go_num, by rw [HIN.out]; simp, pw_below_drewN hBj.out _⟩
                            | false =>
                              go_wp2_with fail
                              go_quiet (fail)
                              go_wp2_with fail
                              go_roundg (ds.length - (j + 1))
                              case measure => omega
                              case rel => exact ⟨j + 1, by omega, by omega, by go_num, by rw [HIN.out]; simp, pw_below_drewN hBj.out _⟩
                        | false =>
                          go_wp2_with fail
                          go_quiet (fail)
                          go_wp2_with fail
                          go_roundg (ds.length - (j + 1))
                          case measure => omega
                          case rel => exact ⟨j + 1, by omega, by omega, by go_num, by rw [HIN.out]; simp, pw_below_drewN hBj.out _⟩
                      | false =>
                        go_wp2_with fail
                        go_quiet (fail)
                        go_wp2_with fail
                        go_roundg (ds.length - (j + 1))
                        case measure => omega
                        case rel => exact ⟨j + 1, by omega, by omega, by go_num, by rw [HIN.out]; simp, pw_below_drewN hBj.out _⟩
                  · have hj2 : j = ds.length := by omega
                    subst hj2
                    go_wp2_with fail
                    go_roundg (l.length - (k + 1))
                    case measure => omega
                    case rel => exact ⟨k + 1, by omega, by omega, by go_num, by rw [HOUT.out], hBj.out⟩
              · have hk2 : k = l.length := by omega
                subst hk2
                rw [HOWN.out]
                have hw9 := pw_cell_below hBk.out hwi
                have HB9 := Lib.hid (below_then hBi.out hBi.out.size hBk.out)
                by_cases hi0 : i = 0
                · have hi1 : decide ((i : Int) > 0) = false := decide_eq_false (by omega)
                  have hi5 : decide (0 < i) = false := decide_eq_false (by omega)
                  clear hi0
                  go_wp2_with fail
                  go_quiet (fail)
                  go_wp2_with fail
                  refine (free_C A' c' m t (by omega) hC'.out _ (Kd.C_below hR'.out (pw_below_drewN hBk.out _))).mono ?_
                  rintro e w9 ⟨A9, c9, rfl, hc9, hr9, hb9⟩
                  go_wp2_with fail
                  go_roundg (W.length - (i + 1))
                  case measure => omega
                  case rel => exact ⟨i + 1, A9, c9, by omega, by omega, by go_num, by rw [HFS.out], by rw [HFS.out]; exact hc9.out, by rw [HFS.out]; exact hr9.out, below_then HB9.out HB9.out.size (below_then (pw_below_drewN (Below.refl _ _) _) (Nat.le_refl _) hb9.out)⟩
                · obtain ⟨adv, eav, hv0⟩ := Kd.at_int hr6.out ((i - 1 : Nat) : Int) (by omega) (by omega)
                  simp only [Int.toNat_natCast] at hv0
                  cases eav
                  have hv9 := pw_cell_below HB9.out hv0
                  clear hv0
                  have hge : decide (Go.Proofs.YtclomgbiomojjaaW.PrintWords.rd W ((i - 1 : Nat) : Int) ≥ t) = false := by
                    have e1 : Go.Proofs.YtclomgbiomojjaaW.PrintWords.rd W ((i - 1 : Nat) : Int) = W[i - 1] := by unfold Go.Proofs.YtclomgbiomojjaaW.PrintWords.rd; simp [show i - 1 < W.length by omega]
                    have h2 := of_decide_eq_true (List.pairwise_iff_getElem.1 HWT.out.up (i - 1) i (by omega) hlt (by omega))
                    rw [HTW.out] at h2
                    rw [e1]
                    exact decide_eq_false (by omega)
                  obtain ⟨v, hv⟩ : ∃ v, Go.Proofs.YtclomgbiomojjaaW.PrintWords.rd W ((i - 1 : Nat) : Int) = v := ⟨_, rfl⟩
                  rw [hv] at hv9 hge
                  clear hv
                  have hi1 : decide ((i : Int) > 0) = true := decide_eq_true (by omega)
                  have hi5 : decide (0 < i) = true := decide_eq_true (by omega)
                  have hi2 : ((i : Int) - 1).toNat = i - 1 := by omega
                  have hi3 : 0 ≤ (i : Int) - 1 := by omega
                  have hi4 : (i : Int) - 1 < (W.length : Int) := by omega
                  go_wp2_with fail
                  go_quiet (fail)
                  clear hi2
                  go_wp2_with fail
                  refine (free_C A' c' m t (by omega) hC'.out _ (Kd.C_below hR'.out (pw_below_drewN hBk.out _))).mono ?_
                  rintro e w9 ⟨A9, c9, rfl, hc9, hr9, hb9⟩
                  go_wp2_with fail
                  go_roundg (W.length - (i + 1))
                  case measure => omega
                  case rel => exact ⟨i + 1, A9, c9, by omega, by omega, by go_num, by rw [HFS.out], by rw [HFS.out]; exact hc9.out, by rw [HFS.out]; exact hr9.out, below_then HB9.out HB9.out.size (below_then (pw_below_drewN (Below.refl _ _) _) (Nat.le_refl _) hb9.out)⟩
          · have hi2 : i = W.length := by omega
            subst hi2
            rw [List.take_length] at hC' hR' hml ⊢
            obtain ⟨r, now, hT9, hOld⟩ := HWT.out.last
            have htf9 := take_f (right_freeAll W HRH.out) HW1.out HW2.out (ds := ds) (by omega)
            rw [hT9] at htf9
            obtain ⟨m, hm⟩ : ∃ m, freeAll l W = m := ⟨_, rfl⟩
            rw [hm] at hC' hR' hml htf9 hOld ⊢
            have HB9 := Lib.hid (below_then HB5.out HB5.out.size hBi.out)
            have HTC9 := Lib.hid (take_C A' c' m a1 a2 A3 c3 ds r [] now htf9 hC'.out HC3.out wr hR'.out (Kd.C_below HR3.out HB9.out))
            have HOLD := Lib.hid hOld
            clear hT9 htf9 hm hOld
            go_wp2_with fail
            refine HTC9.out.mono ?_
            rintro e w9 ⟨A8, c8, A9, c9, rfl, hc8, hr8, hc9, hr9, hb9⟩
            have HBA := Lib.hid (below_then HB9.out HB9.out.size hb9.out)
            have HRM := Lib.hid (Kd.C_below hR'.out hb9.out)
            go_wp2_with fail
            go_loopg [21, 22] (m.length) (fun gg s21 s22 wr => ∃ k : Nat, k ≤ m.length ∧ m.length - k ≤ gg ∧ s22 = .int .i64 k ∧ s21 = .bool (anyTo (P2 a1) m ds k 0) ∧ Hid (Below w9.heap.size w9 wr))
            case atStart => exact ⟨0, Nat.zero_le _, by omega, rfl, by simp [anyTo], Below.refl _ _⟩
            case round => as_aux_lemma =>
              obtain ⟨k, hk, hg2, rfl, rfl, hBk⟩ := hrel
              by_cases hltk : k < m.length
              · have hltkz : (k : Int) < (m.length : Int) := by omega
                have HOUT := Lib.hid (any_out (P2 a1) m ds k hltk)
                obtain ⟨w2o, rfl⟩ : ∃ wo : World, wo = wr := ⟨_, rfl⟩
                go_wp2_with fail
                go_loopg [21, 23] (ds.length) (fun gg s21 s23 wr => ∃ j : Nat, j ≤ ds.length ∧ ds.length - j ≤ gg ∧ s23 = .int .i64 j ∧ s21 = .bool (anyTo (P2 a1) m ds k j) ∧ Hid (Below w9.heap.size w9 wr))
                case atStart => exact ⟨0, Nat.zero_le _, by omega, rfl, rfl, hBk.out⟩
                case round => as_aux_lemma =>
                  obtain ⟨j, hj, hg3, rfl, rfl, hBj⟩ := hrel
                  by_cases hltj : j < ds.length
                  · have hltjz : (j : Int) < (ds.length : Int) := by omega
                    have hin := any_in (P2 a1) m ds k j hltj
                    obtain ⟨o, ho⟩ : ∃ o, anyTo (P2 a1) m ds k j = o := ⟨_, rfl⟩
                    rw [ho] at hin ⊢
                    have hBB := below_then HBA.out HBA.out.size hBj.out
                    obtain ⟨adx, eax, hx0, hx1, hx2⟩ := at_T34 HRM.out (k : Int) (by omega) (by omega)
                    obtain ⟨ady, eay, hy0⟩ := Kd.at_string HR3.out (j : Int) (by omega) (by omega)
                    replace hx0 := pw_cell_below hBj.out hx0
                    replace hx1 := pw_cell_below hBj.out hx1
                    clear hx2
                    replace hy0 := pw_cell_below hBB hy0
                    simp only [Int.toNat_natCast] at hx0 hx1 hy0
                    obtain ⟨d, hd⟩ : ∃ d, rdOf ByteArray.empty ds (j : Int) = d := ⟨_, rfl⟩
                    obtain ⟨x, hx⟩ : ∃ x, rd_T34 m (k : Int) = x := ⟨_, rfl⟩
                    rw [hd] at hy0 hin
                    rw [show rd m (k : Int) = x from hx] at hin
                    rw [hx] at hx0 hx1
                    clear hd hx ho hBB
                    obtain ⟨x0, x1, x2⟩ := x
                    rw [show P2 a1 ⟨x0, x1, x2⟩ d = ((x0.toList == d.toList) && (x1 != a1)) from rfl] at hin
                    obtain ⟨b1, hb1⟩ : ∃ b, (x1 != a1) = b := ⟨_, rfl⟩
                    obtain ⟨b2, hb2⟩ : ∃ b, (x0.toList == d.toList) = b := ⟨_, rfl⟩
                    rw [hb1, hb2] at hin
                    have HIN := Lib.hid hin
                    clear hin
                    cases eax
                    cases eay
                    cases o with
                    | true =>
                      go_wp2_with fail
                      go_quiet (fail)
                      go_wp2_with fail
                      go_roundg (ds.length - (j + 1))
                      case measure => omega
                      case rel => exact ⟨j + 1, by omega, by omega, by go_num, by rw [HIN.out]; simp, pw_below_drewN hBj.out _⟩
                    | false =>
                      cases b2 with
                      | true =>
                        cases b1 with
                        | true =>
                          go_wp2_with fail
                          go_quiet (fail)
                          go_wp2_with fail
                          go_roundg (ds.length - (j + 1))
                          case measure => omega
                          case rel => exact ⟨j + 1, by omega, by omega, by go_num, by rw [HIN.out]; simp, pw_below_drewN hBj.out _⟩
                        | false =>
                          go_wp2_with fail
                          go_quiet (fail)
                          go_wp2_with fail
                          go_roundg (ds.length - (j + 1))
                          case measure => omega
                          case rel => exact ⟨j + 1, by omega, by omega, by go_num, by rw [HIN.out]; simp, pw_below_drewN hBj.out _⟩
                      | false =>
                        go_wp2_with fail
                        go_quiet (fail)
                        go_wp2_with fail
                        go_roundg (ds.length - (j + 1))
                        case measure => omega
                        case rel => exact ⟨j + 1, by omega, by omega, by go_num, by rw [HIN.out]; simp, pw_below_drewN hBj.out _⟩
                  · have hj2 : j = ds.length := by omega
                    subst hj2
                    go_wp2_with fail
                    go_roundg (m.length - (k + 1))
                    case measure => omega
                    case rel => exact ⟨k + 1, by omega, by omega, by go_num, by rw [HOUT.out], hBj.out⟩
              · have hk2 : k = m.length := by omega
                subst hk2
                rw [HOLD.out]
                cases now with
                | true =>
                  go_wp2_with fail
                  go_ret
                  exact ⟨rfl, below_then HBA.out HBA.out.size hBk.out⟩
                | false =>
                  go_wp2_with fail
                  go_ret
                  exact ⟨rfl, below_then HBA.out HBA.out.size hBk.out⟩
      · have hst := (HCS.out).resolve_right hgo
        obtain ⟨hst1, rfl⟩ := hst
        clear HCS hgo
        cases is with
        | true =>
          go_wp2_with fail
          go_ret
          exact ⟨rfl, HB5.out⟩
        | false =>
          have hz : r1.length = 0 := hst1.resolve_left (by simp)
          have hzb : (((r1.length : Nat) : Int) == 0) = true := by rw [hz]; rfl
          clear hst1 hz
          go_wp2_with fail
          go_ret
          exact ⟨rfl, HB5.out⟩
theorem cantonlaw10_LocksWound.calls (A0 : Option Addr) (c0 : Nat) (l0 : List (S34)) (a1 : Int) (a2 : Int) (A3 : Option Addr) (c3 : Nat) (l3 : List ByteArray) (r : Bool) (w : World) (hr0 : Kd.C k34 w A0 l0.length l0) (hc0 : l0.length ≤ c0) (hr3 : Kd.C Kd.string w A3 l3.length l3) (hc3 : l3.length ≤ c3) (h : cantonlaw10_LocksWound.f l0 a1 a2 l3 = some r) :
    Calls Try.prog 7 #[.slice A0 l0.length c0, .int .i64 a1, .int .i64 a2, .slice A3 l3.length c3] w fun e w' => e = .returned (.bool r) ∧ Below w.heap.size w w' := by
  unfold cantonlaw10_LocksWound.f at h
  split at h
  · next hx =>
    cases h
    exact wound_walk A0 c0 l0 a1 a2 A3 c3 l3 w hr0 hc0 hr3 hc3 hx.1.1 hx.1.2 hx.2.1 hx.2.2.1 hx.2.2.2.1 hx.2.2.2.2
  · cases h
end Go.Proofs.Ytclomgbiomojjaa.LWnd
