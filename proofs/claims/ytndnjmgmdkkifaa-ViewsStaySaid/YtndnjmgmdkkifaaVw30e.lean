/- The walk of a team's step: 5 ≤ x.f0 ∧ x.f0 ≤ 8. -/
import Derived.Test.YtndnjmgmdkkifaaVw30
import Derived.Test.YtndnjmgmdkkifaaVw37
import Derived.Deep.DrawnRows
import Derived.Outline
import Derived.Deep.Cut
import Derived.Deep.CutRange
import Derived.Deep.CutBlock
import Derived.StillTailTactics
namespace Go.Proofs.Ytndnjmgmdkkifaa.Vw1
open Go Go.RowKit Go.Maps Go.Proofs Go.Proofs.Ytndnjmgmdkkifaa.New Go.Proofs.Ytndnjmgmdkkifaa.Vw Go.Proofs.Ytndnjmgmdkkifaa.Vw0 Go.Proofs.Ytndnjmgmdkkifaa.Q Go.Proofs.YtndnjmgmdkkifaaW.PrintWords Go.Proofs.YtndnjmgmdkkifaaW.PrintLast Go.Proofs.YtndnjmgmdkkifaaW.PrintMore
set_option linter.unusedVariables false
set_option linter.unusedSimpArgs false

attribute [local go_sem ↓] wp_storeL Go.wp_at_zero Go.wp_at_succ
set_option maxHeartbeats 4000000 in
set_option maxRecDepth 100000 in
theorem step_calls_e {B : Nat} {W : World} {tb n : Nat} {p : Nat → Nat} {r : Nat → V} {way : List St.Fly} (h : TM B W tb n p r (fun i => svOf (r i)) way) (x : S55) (hw0 : 0 ≤ x.f1) (hw1 : x.f1 < n) (hn : n ≤ 5) (hx4 : x.f4.size ≤ 140737488355328)
    (hwy : 5 ≤ x.f0 ∧ x.f0 ≤ 8) (hok : ∀ i, i < n → OkV (r i)) (hme : ∀ i, i < n → (r i).me = i ∧ (r i).many = n) (hway : way.length ≤ 200 ∧ ∀ f ∈ way, f.fr < n ∧ f.to_ < n) :
    Calls Try.prog 30 #[.pointer (some ⟨tb, 0, none⟩), .agg #[.int .i64 x.f0, .int .i64 x.f1, .int .i64 x.f2, .int .i64 x.f3, .string x.f4, .bool x.f5]] W fun e w' => e = .returned (.bool true) ∧ (∃ p', TM B w' tb n p' (St.moveT (mvOf x) (r, way)).1 (fun i => svOf ((St.moveT (mvOf x) (r, way)).1 i)) (St.moveT (mvOf x) (r, way)).2) ∧ Below B W w' ∧ Rows9 W w' := by
  have HWY := Lib.hid hwy
  clear hwy
  have H := Lib.hid h
  have HME := Lib.hid hme
  have HOK := Lib.hid hok
  have HWAY := Lib.hid hway
  have HX4 := Lib.hid hx4
  have hBW : B ≤ W.heap.size := parts_size h.parts (show x.f1.toNat < n by omega)
  obtain ⟨i0, hi0⟩ : ∃ i0 : Nat, x.f1 = (i0 : Int) := ⟨x.f1.toNat, by omega⟩
  have hi0n : i0 < n := by omega
  obtain ⟨_, _, gl, cl, csl, gs, cs, css, sw, rows, k1, _⟩ := h
  obtain ⟨b0, b1, b2⟩ := cells3 k1
  have htb := blk_lt k1
  have H1 := Lib.hid (H.out.below (below_alloc (Below.refl _ _) (boxM x)))
  have HB1 := Lib.hid ((Below.refl B W).alloc hBW (boxM x))
  have HR1 := Lib.hid (Rows9.below (below_alloc (Below.refl W.heap.size W) (boxM x)))
  have HBX := Lib.hid (blk_new W (boxM x))
  have HNL := Lib.hid (Nat.lt_of_lt_of_le htb (Nat.le_refl _))
  unfold boxM at H1 HB1 HR1 HBX
  rw [hi0] at H1 HB1 HR1 HBX
  have HI0 := Lib.hid hi0
  clear hme hway hx4 k1 hw0 hw1 hok
  go_enter Try.func30, Try.ntmps30
  go_upto_block 0 with (fail)
  generalize W.alloc (Obj.cells #[.int .i64 x.f0, .int .i64 (i0 : Int), .int .i64 x.f2, .int .i64 x.f3, .string x.f4, .bool x.f5] 55) = W1 at H1 HB1 HR1 HBX ⊢
  obtain ⟨g3, hg3⟩ : ∃ g3, W.heap.size = g3 := ⟨_, rfl⟩
  rw [hg3] at HBX ⊢
  have HG3 := Lib.hid (show B ≤ g3 by omega)
  clear b0 b1 b2 htb hg3 HNL hi0
  obtain ⟨gl1, cl1, csl1, gs1, cs1, css1, sw1, rows1, X1⟩ := H1.out.tx
  obtain ⟨Aw, cw, ew, hcw, hCw⟩ := Kd.R_reads X1.wrow
  subst ew
  have hrl : rows1.length = way.length := X1.way.1
  rw [hrl] at X1 hCw hcw
  have HX1 := Lib.hid X1
  obtain ⟨b0, b1, b2⟩ := cells3 X1.blk
  obtain ⟨m0, m1, m2, m3, m4, m5⟩ := cells6 HBX.out
  have z0 := (blk_cell X1.lblk i0).trans (X1.lat i0 hi0n)
  have HCW := Lib.hid hCw
  have htb := blk_lt X1.blk
  have hgl := blk_lt X1.lblk
  have hlg3 := blk_lt HBX.out
  clear X1 hCw hrl hcw
  have hx0 : 0 ≤ (i0 : Int) := by omega
  have hxn : (i0 : Int) < (n : Int) := by omega
  go_cut [6] (fun v6 wc => ∃ (i' : Nat) (r' : Nat → V) (way' : List St.Fly), v6 = .int .i64 i' ∧ Hid (i' < n ∧ ∀ j, j ≠ i' → r' j = r j) ∧ Hid (TM B wc tb n p r' (fun i => svOf (r i)) way') ∧ Hid (St.moveT (mvOf x) (r, way) = tailT x i' r r' way') ∧ Hid (wc.heap[g3]? = some (.cells #[.int .i64 x.f0, .int .i64 (i0 : Int), .int .i64 x.f2, .int .i64 x.f3, .string x.f4, .bool x.f5] 55 (0, 0))) ∧ Hid (Below B W wc) ∧ Hid (Rows9 W wc))
  case first =>
    have hwy := HWY.out
    clear HWY
    have hq0 : ¬ (x.f0 = 0 ∨ x.f0 = 1) := by omega
    have hq2 : ¬ x.f0 = 2 := by omega
    have hqe : ¬ (x.f0 < 0 ∨ 8 < x.f0) := by omega
    have hq3 : ¬ (x.f0 = 3 ∨ x.f0 = 4) := by omega
    clear hwy
    have h58 : 5 ≤ x.f0 ∧ x.f0 ≤ 8 := by omega
    have e0 : (x.f0 == 0) = false := beq_eq_false_iff_ne.2 (by omega)
    have e1 : (x.f0 == 1) = false := beq_eq_false_iff_ne.2 (by omega)
    have e2 : (x.f0 == 2) = false := beq_eq_false_iff_ne.2 (by omega)
    have e3 : (x.f0 == 3) = false := beq_eq_false_iff_ne.2 (by omega)
    have e4 : (x.f0 == 4) = false := beq_eq_false_iff_ne.2 (by omega)
    have key : (x.f0 == 5) = true ∨ ((x.f0 == 5) = false ∧ (x.f0 == 6) = true) ∨ ((x.f0 == 5) = false ∧ (x.f0 == 6) = false ∧ (x.f0 == 7) = true) ∨ ((x.f0 == 5) = false ∧ (x.f0 == 6) = false ∧ (x.f0 == 7) = false ∧ (x.f0 == 8) = true) := by
      have : x.f0 = 5 ∨ x.f0 = 6 ∨ x.f0 = 7 ∨ x.f0 = 8 := by omega
      rcases this with e | e | e | e <;> rw [e] <;> decide
    have H58 := Lib.hid h58
    clear hq0 hq2 hqe hq3 h58
    go_upto_if 82 with (fail)
    (try simp only [Act.put, List.setIfInBounds_toArray, List.set_cons_zero, List.set_cons_succ])
    go_cut [82] (fun v82 wc => v82 = .bool true ∧ wc = W1)
    case first =>
      rcases key with e5 | ⟨e5, e6⟩ | ⟨e5, e6, e7⟩ | ⟨e5, e6, e7, e8⟩
      · go_wp2_with fail
        go_meet
        case rel => exact ⟨by rw [e5], rfl⟩
      · go_wp2_with fail
        go_meet
        case rel => exact ⟨by first | rfl | rw [e6], rfl⟩
      · go_wp2_with fail
        go_meet
        case rel => exact ⟨by first | rfl | rw [e7], rfl⟩
      · go_wp2_with fail
        go_meet
        case rel => exact ⟨by first | rfl | rw [e8], rfl⟩
    case rest =>
    obtain ⟨rfl, hwc⟩ := hcut
    have hwc2 := hwc.symm
    clear hwc
    subst hwc2
    by_cases hw0 : way.length = 0
    · have HMF := Lib.hid (mv_58 H58.out r way (.inl hw0))
      have hz : ((way.length : Int) == 0) = true := beq_iff_eq.2 (by omega)
      clear key
      go_wp2_with fail
      go_ret
      refine ⟨rfl, ⟨p, ?_⟩, HB1.out, HR1.out⟩
      rw [HMF.out]
      exact H1.out
    · by_cases h3n : x.f3 < 0
      · have HMF := Lib.hid (mv_58 H58.out r way (.inr h3n))
        have hz : ((way.length : Int) == 0) = false := beq_eq_false_iff_ne.2 (by omega)
        have hz3 : decide (x.f3 < 0) = true := decide_eq_true h3n
        go_wp2_with fail
        go_ret
        refine ⟨rfl, ⟨p, ?_⟩, HB1.out, HR1.out⟩
        rw [HMF.out]
        exact H1.out
      · have hz : ((way.length : Int) == 0) = false := beq_eq_false_iff_ne.2 (by omega)
        have hz3 : decide (x.f3 < 0) = false := decide_eq_false h3n
        have hp3 : 0 ≤ x.f3 := by omega
        have hpw : 0 < (way.length : Int) := by omega
        go_upto_region 20 with (fail)
        (try simp only [Act.put, List.setIfInBounds_toArray, List.set_cons_zero, List.set_cons_succ])
        obtain ⟨k, hk⟩ : ∃ k : Nat, x.f3 % (way.length : Int) = (k : Int) := ⟨(x.f3 % (way.length : Int)).toNat, by have := Int.emod_nonneg x.f3 (show (way.length : Int) ≠ 0 by omega); omega⟩
        have hkn : k < way.length := by have := Int.emod_lt_of_pos x.f3 hpw; omega
        obtain ⟨f, hf⟩ : ∃ f, way[k]? = some f := ⟨_, List.getElem?_eq_getElem hkn⟩
        have HMK := Lib.hid (mv_58k H58.out r way (by omega) hp3 hk hf)
        obtain ⟨Af, cf, hrow, hrd, hfl, hfs⟩ := HX1.out.way.2 k f hf
        unfold flyCells at hrow
        have hff := HWAY.out.2 f (List.mem_of_getElem? hf)
        obtain ⟨gw, hgw⟩ : ∃ gw, Aw = some ⟨gw, 0, none⟩ := by
          obtain ⟨ad, ea, _⟩ := HCW.out.2.2 (by omega)
          obtain ⟨g, eg⟩ := Kd.R_head (by rw [← ea]; exact HX1.out.wrow)
          exact ⟨g, by rw [ea, eg]⟩
        subst hgw
        obtain ⟨c0, c1, c2, c3, c4, c5, c6, c7, c8, c9⟩ := way_cells HCW.out hrow
        have HFF := Lib.hid hff
        have HRD := Lib.hid hrd
        have HFL := Lib.hid (And.intro hfl hfs)
        have hwz : (way.length : Int) ≠ 0 := by omega
        have hwzz : ((way.length : Int) != 0) = true := bne_iff_ne.2 hwz
        have hk0 : (0 : Int) ≤ (k : Int) := by omega
        have hkl : (k : Int) < (way.length : Int) := by omega
        have HROW := Lib.hid hrow
        clear hf hrow hff hrd hfl hfs c0 c1 c2 c3 c4 c5 c6 c7 c8 c9
        go_quiet (fail)
        have HD := Lib.hid (pw_below_drewN (Below.refl W1.heap.size W1) nq)
        generalize W1.drewN nq = W2 at HD ⊢
        have HX2 := Lib.hid (HX1.out.below HD.out)
        have HBX2 := Lib.hid (blk_below HBX.out HD.out)
        have HCW2 := Lib.hid (Kd.C_below HCW.out HD.out)
        have HB2 := Lib.hid (HB1.out.trans (HD.out.mono (pt_size (H1.out.parts.pt hi0n))))
        have HR2 := Lib.hid (HR1.out.trans (Rows9.below HD.out))
        have HRD2 := Lib.hid (HRD.out.below HD.out)
        clear z0 b0 b1 b2 m0 m1 m2 m3 m4 m5 htb hgl hlg3 HX1 HCW HB1 HR1 HBX HRD H1 HD
        obtain ⟨_, _, q2⟩ := cells3 HX2.out.blk
        obtain ⟨m0, _, _, _, _, _⟩ := cells6 HBX2.out
        obtain ⟨c0, c1, c2, c3, c4, c5, c6, c7, c8, c9⟩ := way_cells HCW2.out HROW.out
        go_upto_region 21 with (fail)
        (try simp only [Act.put, List.setIfInBounds_toArray, List.set_cons_zero, List.set_cons_succ])
        go_cut [9, 10] (fun v9 v10 wc => v9 = .int .i64 (k : Int) ∧ ∃ g10 : Nat, v10 = .pointer (some ⟨g10, 0, none⟩) ∧ Hid (wc.heap[g10]? = some (.cells #[.int .i64 (f.fr : Int), .int .i64 (f.to_ : Int), .int .i64 f.l.kind, .int .i64 f.l.view, .int .i64 f.l.normal, .int .i64 f.l.len, .int .i64 f.l.stays, .slice Af f.l.log.length cf, .int .i64 f.l.num, .string f.l.text] 84 (0, 0))) ∧ Hid (Below W2.heap.size W2 wc))
        case first =>
          go_wp2_with fail
          go_meet
          case rel => exact ⟨rfl, _, rfl, Lib.hid (blk_new W2 _), Lib.hid (below_alloc (Below.refl _ _) _)⟩
        case rest =>
        obtain ⟨rfl, g10, rfl, HG, HD⟩ := hcut
        clear hk
        have HX := Lib.hid (HX2.out.below HD.out)
        have HBX := Lib.hid (blk_below HBX2.out HD.out)
        have HCW := Lib.hid (Kd.C_below HCW2.out HD.out)
        have HB := Lib.hid (HB2.out.trans (HD.out.mono (parts_size HX2.out.parts hi0n)))
        have HR := Lib.hid (HR2.out.trans (Rows9.below HD.out))
        have HRD := Lib.hid (HRD2.out.below HD.out)
        clear q2 m0 c0 c1 c2 c3 c4 c5 c6 c7 c8 c9 HX2 HBX2 HCW2 HB2 HR2 HRD2 HROW HD
        obtain ⟨_, _, q2⟩ := cells3 HX.out.blk
        obtain ⟨m0, _, _, _, _, _⟩ := cells6 HBX.out
        go_upto_if 115 with (fail)
        (try simp only [Act.put, List.setIfInBounds_toArray, List.set_cons_zero, List.set_cons_succ])
        go_cut [] (fun wd => Hid (TM B wd tb n p r (fun i => svOf (r i)) (wayLess x way k)) ∧ Hid (wd.heap[g3]? = some (.cells #[.int .i64 x.f0, .int .i64 (i0 : Int), .int .i64 x.f2, .int .i64 x.f3, .string x.f4, .bool x.f5] 55 (0, 0))) ∧ Hid (wd.heap[g10]? = some (.cells #[.int .i64 (f.fr : Int), .int .i64 (f.to_ : Int), .int .i64 f.l.kind, .int .i64 f.l.view, .int .i64 f.l.normal, .int .i64 f.l.len, .int .i64 f.l.stays, .slice Af f.l.log.length cf, .int .i64 f.l.num, .string f.l.text] 84 (0, 0))) ∧ Hid (Rd wd (.slice Af f.l.log.length cf) f.l.log) ∧ Hid (Below B W wd) ∧ Hid (Rows9 W wd))
        case first =>
          by_cases h7 : x.f0 = 7
          · have z7 : (x.f0 != 7) = false := by rw [h7]; rfl
            have HWL := Lib.hid (show wayLess x way k = way from if_pos h7)
            clear h7
            go_wp2_with fail
            go_meet
            case rel => exact ⟨by rw [HWL.out]; exact Lib.hid HX.out.tm, HBX, HG, HRD, HB, HR⟩
          · have z7 : (x.f0 != 7) = true := bne_iff_ne.2 h7
            have HWL := Lib.hid (show wayLess x way k = way.eraseIdx k from if_neg h7)
            clear h7
            have HBZ := Lib.hid (parts_size HX.out.parts hi0n)
            have hwl := HWAY.out.1
            go_upto_region 23 with (fail)
            (try simp only [Act.put, List.setIfInBounds_toArray, List.set_cons_zero, List.set_cons_succ])
            refine reg23 HX hkn hwl HCW ?_
            intro u116 u117 u118 u119 u120 u121 u122 u123 u124 u125 u126 u127 u128 u129 u130 u131 u132 u133 u134 A5 N5 c5 w5 hr5 hb5
            have HR5 := Lib.hid hr5
            have HB5 := Lib.hid hb5
            clear hr5 hb5
            go_wp2_with fail
            go_meet
            case rel =>
              obtain ⟨k1, k2, k3⟩ := HX.out.cut_end HBZ.out HB5.out k HR5.out
              exact ⟨by rw [HWL.out]; exact Lib.hid k1, Lib.hid (HX.out.cut_box HB5.out HBX.out (by decide)), Lib.hid (HX.out.cut_box HB5.out HG.out (by decide)), Lib.hid (HRD.out.rows9 k2), Lib.hid (HB.out.trans k3), Lib.hid (HR.out.trans k2)⟩
        case rest =>
          obtain ⟨HT, HBD, HGD, HRDD, HBB, HRR⟩ := hcut
          clear q2 m0 HX HBX HCW HB HR HRD HG key hz hz3 hpw hwz hwzz hk0 hkl
          obtain ⟨m0, _, _, _, _, _⟩ := cells6 HBD.out
          by_cases h8 : x.f0 = 8
          · have z8 : (x.f0 == 8) = true := beq_iff_eq.2 h8
            have HMF := Lib.hid (HMK.out.trans (if_pos h8))
            clear h8
            go_wp2_with fail
            go_ret
            refine ⟨rfl, ⟨p, ?_⟩, HBB.out, HRR.out⟩
            rw [HMF.out]
            exact HT.out
          · have z8 : (x.f0 == 8) = false := beq_eq_false_iff_ne.2 h8
            have HMF := Lib.hid (HMK.out.trans (if_neg h8))
            clear h8
            obtain ⟨gl4, cl4, csl4, gs4, cs4, css4, sw4, rows4, X4⟩ := HT.out.tx
            obtain ⟨b0, _, _⟩ := cells3 X4.blk
            have z4 := (blk_cell X4.lblk f.to_).trans (X4.lat f.to_ HFF.out.2)
            have hgt := HGD.out
            have c0 := (blk_cell hgt 0).trans rfl
            have c1 := (blk_cell hgt 1).trans rfl
            have c2 := (blk_cell hgt 2).trans rfl
            have c3 := (blk_cell hgt 3).trans rfl
            have c4 := (blk_cell hgt 4).trans rfl
            have c5 := (blk_cell hgt 5).trans rfl
            have c6 := (blk_cell hgt 6).trans rfl
            have c7 := (blk_cell hgt 7).trans rfl
            have c8 := (blk_cell hgt 8).trans rfl
            have c9 := (blk_cell hgt 9).trans rfl
            have HPC := Lib.hid (fun w (hw : Below wc.heap.size wc w) => parts_take (HT.out.parts.below hw) HFF.out.2 rfl (f.fr : Int) f.l Af cf (Far.of_rd (HRDD.out.below hw)) HFL.out.1 HFL.out.2)
            have hx0 : 0 ≤ (f.to_ : Int) := by omega
            have hxn : (f.to_ : Int) < (n : Int) := by have := HFF.out.2; omega
            clear X4 hgt
            go_wp2_with fail
            go_still_tail 11, (by kernel_rfl)
            change wpList _ _ _ _ _ wc.drew
            have HPD := Lib.hid (HPC.out wc.drew (below_drew (Below.refl _ _)))
            have HD := Lib.hid (below_drew (Below.refl wc.heap.size wc))
            generalize wc.drew = W8 at HPD HD ⊢
            go_wp2_with fail
            refine HPD.out.mono ?_
            rintro e w3 ⟨rfl, hp3, hs3⟩
            have HT3 := Lib.hid ((HT.out.below HD.out).stp HFF.out.2 rfl hp3 hs3)
            have HX3 := Lib.hid (hs3.row ((HT.out.parts.below HD.out).pt HFF.out.2) (by decide) (blk_below HBD.out HD.out))
            have HB3 := Lib.hid ((HBB.out.trans (HD.out.mono (parts_size HT.out.parts HFF.out.2))).trans hs3.below)
            have HR3 := Lib.hid ((HRR.out.trans (Rows9.below HD.out)).trans (Rows9.stp hs3 ((HT.out.parts.below HD.out).pt HFF.out.2)))
            clear hp3 hs3
            go_wp2_with fail
            go_meet
            case rel => exact ⟨f.to_, _, _, rfl, ⟨HFF.out.2, fun j hj => upd_other _ _ hj⟩, HT3.out, HMF.out, HX3.out, HB3.out, HR3.out⟩
  case rest =>
    clear HWY z0 m0 m1 m2 m3 m4 m5 b0 b1 b2 htb hgl hlg3 HX1 HCW H1 HB1 HR1 HBX hx0 hxn hi0n HX4
    obtain ⟨i', r', way', rfl, HI, HT, HM, HBX, HB, HR⟩ := hcut
    obtain ⟨W5, rfl⟩ : ∃ W5 : World, W5 = wc := ⟨_, rfl⟩
    obtain ⟨gl2, cl2, csl2, gs2, cs2, css2, sw2, rows2, X2⟩ := HT.out.tx
    obtain ⟨hin, hoth⟩ := HI.out
    obtain ⟨b0, b1, b2⟩ := cells3 X2.blk
    obtain ⟨m0, m1, m2, m3, m4, m5⟩ := cells6 HBX.out
    have z0 := (blk_cell X2.lblk i').trans (X2.lat i' hin)
    obtain ⟨As, cs', s0, s1, s2, hrs⟩ := X2.sat i' hin
    have y0 := (blk_cell X2.sblk (i' * 3)).trans s0
    have y1 := (blk_cell X2.sblk (i' * 3 + 1)).trans s1
    have y2 := (blk_cell X2.sblk (i' * 3 + 2)).trans s2
    unfold svOf at y0 y1 y2 hrs
    dsimp only at y0 y1 y2 hrs
    have HX2 := Lib.hid X2
    have HRS := Lib.hid hrs
    have HO := Lib.hid hoth
    have hxn : (i' : Int) < (n : Int) := by omega
    have hx0 : 0 ≤ (i' : Int) := by omega
    clear X2 hoth s0 s1 s2 hrs
    go_upto_region 28 with (fail)
    (try simp only [Act.put, List.setIfInBounds_toArray, List.set_cons_zero, List.set_cons_succ])
    go_cut [168] (fun v168 wc => v168 = .bool (lostB x) ∧ wc = W5)
    case first => as_aux_lemma =>
      clear z0 y0 y1 y2 HX2 HRS HO HT HM HB HR hx0 hxn b0 b1 b2 m1 m2 m3 m4
      have hl : lostB x = ((x.f5 && (x.f0 != 3 && x.f0 != 4)) || x.f0 == 9) := rfl
      have HL := Lib.hid hl
      clear hl
      obtain ⟨v5, hv5⟩ : ∃ b, x.f5 = b := ⟨_, rfl⟩
      rw [hv5] at m5 HL
      clear hv5
      cases v5 with
      | false =>
        cases c9 : (x.f0 == 9) with
        | false =>
          rw [c9] at HL
          go_wp2_with fail
          go_meet
          case rel => exact ⟨by rw [HL.out]; rfl, rfl⟩
        | true =>
          rw [c9] at HL
          go_wp2_with fail
          go_meet
          case rel => exact ⟨by rw [HL.out]; rfl, rfl⟩
      | true =>
        cases c3 : (x.f0 != 3) with
        | false =>
          have e3 : x.f0 = 3 := by simpa using c3
          have c9 : (x.f0 == 9) = false := by rw [e3]; rfl
          rw [c3, c9] at HL
          clear e3
          go_wp2_with fail
          go_meet
          case rel => exact ⟨by rw [HL.out]; rfl, rfl⟩
        | true =>
          rw [c3] at HL
          cases c4 : (x.f0 != 4) with
          | false =>
            have e4 : x.f0 = 4 := by simpa using c4
            have c9 : (x.f0 == 9) = false := by rw [e4]; rfl
            rw [c4, c9] at HL
            clear e4
            go_wp2_with fail
            go_meet
            case rel => exact ⟨by rw [HL.out]; rfl, rfl⟩
          | true =>
            rw [c4] at HL
            go_wp2_with fail
            go_meet
            case rel => exact ⟨by rw [HL.out]; rfl, rfl⟩
    case rest =>
      obtain ⟨rfl, hwc⟩ := hcut
      subst hwc
      clear m0 m1 m2 m3 m4 m5
      have HLO := Lib.hid (show tailT x i' r r' way' = if lostB x = true then (St.upd r' i' (St.anew (r i')), way') else (r', way') from rfl)
      obtain ⟨lo, hlo⟩ : ∃ lo, lostB x = lo := ⟨_, rfl⟩
      rw [hlo] at HLO ⊢
      clear hlo
      cases lo with
      | true =>
        have HMM := Lib.hid (HM.out.trans (HLO.out.trans (if_pos rfl)))
        have hmn := HME.out i' hin
        have hok := (HT.out.parts.pt hin).ok
        have hnv : newV (i' : Int) (n : Int) (r i').view (r i').normal (r i').log = some (made (i' : Int) (n : Int) (r i').view (r i').normal (r i').log) := by
          have := newV_of' (HOK.out i' hin)
          rw [hmn.1, hmn.2] at this
          exact this
        have HNV := Lib.hid hnv
        have hanew : made (i' : Int) (n : Int) (r i').view (r i').normal (r i').log = St.anew (r i') := by
          unfold made St.anew
          rw [hmn.1, hmn.2]
        have HAN := Lib.hid hanew
        clear hnv hmn hok hanew
        have HNW := Lib.hid (fun w (hf : Fin29 wc B w tb n p r' (fun i => svOf (r i)) way' gl2 cl2 gs2 cs2 css2 sw2 rows2 i') => pt_new (W := w) HNV.out As cs' (HRS.out.rows9 hf.rows9).C1.2)
        have HF0 := Lib.hid (show Fin29 wc B wc tb n p r' (fun i => svOf (r i)) way' gl2 cl2 gs2 cs2 css2 sw2 rows2 i' from ⟨Below.refl _ _, Rows9.refl _, _, _, csl2, fun _ _ => ⟨rfl, rfl⟩, HX2.out⟩)
        have HFB := Lib.hid (fun w w' (hf : Fin29 wc B w tb n p r' (fun i => svOf (r i)) way' gl2 cl2 gs2 cs2 css2 sw2 rows2 i') (hb : Below w.heap.size w w') => Fin29.below hf hin hb)
        have HFA := Lib.hid (fun w (hf : Fin29 wc B w tb n p r' (fun i => svOf (r i)) way' gl2 cl2 gs2 cs2 css2 sw2 rows2 i') => Fin29.at_ hf hin)
        have HFT := Lib.hid (fun w w' q (hf : Fin29 wc B w tb n p r' (fun i => svOf (r i)) way' gl2 cl2 gs2 cs2 css2 sw2 rows2 i') (hb : Below w.heap.size w w') (hp : Pt w.heap.size w' q (made (i' : Int) (n : Int) (r i').view (r i').normal (r i').log)) => Fin29.store hf hin hb hp)
        go_upto_region 29 with (fail)
        (try simp only [Act.put, List.setIfInBounds_toArray, List.set_cons_zero, List.set_cons_succ])
        go_cut [6] (fun v6 wd => v6 = .int .i64 i' ∧ ∃ q : Nat, Hid (TM B wd tb n (upd p i' q) (upd r' i' (made (i' : Int) (n : Int) (r i').view (r i').normal (r i').log)) (fun i => svOf (r i)) way') ∧ Hid (Below B wc wd) ∧ Hid (Rows9 wc wd))
        case first => as_aux_lemma =>
          clear HAN HMM HLO HOK HME HWAY HI HG3 HI0 HM HNV HT HBX HB HR HX2 HRS HO z0
          go_region_held3 (fun w' => w'.cell? ⟨tb, 0, none⟩ = some (.slice (some ⟨gl2, 0, none⟩) n cl2) ∧ w'.cell? ⟨tb, 1, none⟩ = some (.slice (some ⟨gs2, 0, none⟩) n cs2) ∧ w'.cell? ⟨gs2, i' * 3, none⟩ = some (.int .i64 (r i').view) ∧ w'.cell? ⟨gs2, i' * 3 + 1, none⟩ = some (.int .i64 (r i').normal) ∧ w'.cell? ⟨gs2, i' * 3 + 2, none⟩ = some (.slice As (r i').log.length cs') ∧ Hid (Fin29 wc B w' tb n p r' (fun i => svOf (r i)) way' gl2 cl2 gs2 cs2 css2 sw2 rows2 i'))
            (first | exact ⟨by go_keep, by go_keep, by go_keep, by go_keep, by go_keep, Lib.hid (HF0.out.below hin (below_drew1 (Below.refl _ _)))⟩ | (go_split_ands; exact ⟨cell_keep' hb (by assumption), cell_keep' hb (by assumption), cell_keep' hb (by assumption), cell_keep' hb (by assumption), cell_keep' hb (by assumption), Lib.hid (HFB.out _ _ (Hid.out (by assumption)) hb)⟩) | (go_split_ands; exact ⟨by go_keep, by go_keep, by go_keep, by go_keep, by go_keep, HFD.out.1⟩))
            (first | (go_at_call 12; go_split_ands; (with_reducible refine (HNW.out _ (Hid.out (by assumption))).mono ?_); rintro e w' ⟨q, rfl, hpq, hb⟩; obtain ⟨v0, g0, gf0, gn1, gn2⟩ := HFA.out _ (HFB.out _ _ (Hid.out (by assumption)) hb); have gn3 := Ne.symm gn1; have gn4 := Ne.symm gn2; have HFD := Lib.hid (HFT.out _ _ _ (Hid.out (by assumption)) hb hpq); clear hpq))
          all_goals
            go_split_ands
            go_wp2_with fail
            go_meet
            case rel => exact ⟨rfl, q, HFD.out.2, HFD.out.1.below_, HFD.out.1.rows9⟩
        case rest =>
        clear z0 y0 y1 y2 b0 b1 b2
        obtain ⟨rfl, q, hT, hB, hR9⟩ := hcut
        have hT := hT.out
        rw [HAN.out] at hT
        have HRR := Lib.hid (HR.out.trans hR9.out)
        have HTT := Lib.hid hT
        have HBB := Lib.hid (HB.out.trans hB.out)
        obtain ⟨gl4, cl4, csl4, gs4, cs4, css4, sw4, rows4, X4⟩ := hT.tx
        obtain ⟨b0, b1, b2⟩ := cells3 X4.blk
        have z4 := (blk_cell X4.lblk i').trans (X4.lat i' hin)
        rw [upd_same] at z4
        clear hT hR9 hB X4 b1 b2
        go_wp2_with fail
        go_ret
        refine ⟨rfl, ⟨upd p i' q, ?_⟩, HBB.out, HRR.out⟩
        rw [HMM.out]
        have e : (fun i => svOf ((St.upd r' i' (St.anew (r i'))) i)) = fun i => svOf (r i) := by
          funext j
          by_cases q : j = i'
          · rw [q, St.upd_same]; rfl
          · rw [St.upd_other _ _ q, HO.out j q]
        show TM B _ tb n (upd p i' q) (St.upd r' i' (St.anew (r i'))) (fun i => svOf ((St.upd r' i' (St.anew (r i'))) i)) way'
        rw [e]
        exact HTT.out
      | false =>
        have HMM := Lib.hid (HM.out.trans (HLO.out.trans (if_neg (by decide))))
        have HSV := Lib.hid (fun w (hf : Fin31 W B w tb n p r' (fun i => svOf (r i)) way' gl2 cl2 csl2 gs2 cs2 sw2 rows2 i' (svOf (r' i'))) => (show Calls Try.prog 21 #[.pointer (some ⟨p i', 0, none⟩)] w fun e w' => ∃ A c, e = .returned (.agg #[.int .i64 (r' i').view, .int .i64 (r' i').normal, .slice A (r' i').log.length c]) ∧ Rd w' (.slice A (svOf (r' i')).2.2.length c) (svOf (r' i')).2.2 ∧ Below w.heap.size w w' from by
          obtain ⟨_, _, _, _, _, hx⟩ := hf
          exact pt_saved (hx.parts.pt hin)))
        have HF0 := Lib.hid (show Fin31 W B wc tb n p r' (fun i => svOf (r i)) way' gl2 cl2 csl2 gs2 cs2 sw2 rows2 i' (svOf (r' i')) from ⟨HB.out, HR.out, _, css2, fun _ _ => rfl, HX2.out⟩)
        have HFB := Lib.hid (fun w w' (hf : Fin31 W B w tb n p r' (fun i => svOf (r i)) way' gl2 cl2 csl2 gs2 cs2 sw2 rows2 i' (svOf (r' i'))) (hb : Below w.heap.size w w') => Fin31.below hf hin hb)
        have HFS := Lib.hid (fun w A c (hf : Fin31 W B w tb n p r' (fun i => svOf (r i)) way' gl2 cl2 csl2 gs2 cs2 sw2 rows2 i' (svOf (r' i'))) (hr : Rd w (.slice A (svOf (r' i')).2.2.length c) (svOf (r' i')).2.2) => (Fin31.store hf hin hr).1)
        have HFT := Lib.hid (fun w A c (hf : Fin31 W B w tb n p r' (fun i => svOf (r i)) way' gl2 cl2 csl2 gs2 cs2 sw2 rows2 i' (svOf (r' i'))) (hr : Rd w (.slice A (svOf (r' i')).2.2.length c) (svOf (r' i')).2.2) => Fin31.store hf hin hr)
        have HFA := Lib.hid (fun w (hf : Fin31 W B w tb n p r' (fun i => svOf (r i)) way' gl2 cl2 csl2 gs2 cs2 sw2 rows2 i' (svOf (r' i'))) => Fin31.at_ hf hin)
        unfold svOf at HFS
        dsimp only at HFS
        go_upto_region 31 with (fail)
        (try simp only [Act.put, List.setIfInBounds_toArray, List.set_cons_zero, List.set_cons_succ])
        go_cut [6] (fun v6 wd => v6 = .int .i64 i' ∧ Hid (TM B wd tb n p r' (upd (fun i => svOf (r i)) i' (svOf (r' i'))) way') ∧ Hid (Below B W wd) ∧ Hid (Rows9 W wd))
        case first => as_aux_lemma =>
          clear HMM HLO HOK HME HWAY HI HG3 HI0 HM HT HBX HB HR HX2 HRS HO y0 y1 y2
          go_region_held3 (fun w' => w'.cell? ⟨tb, 0, none⟩ = some (.slice (some ⟨gl2, 0, none⟩) n cl2) ∧ w'.cell? ⟨tb, 1, none⟩ = some (.slice (some ⟨gs2, 0, none⟩) n cs2) ∧ w'.cell? ⟨gl2, i', none⟩ = some (.pointer (some ⟨p i', 0, none⟩)) ∧ Hid (Fin31 W B w' tb n p r' (fun i => svOf (r i)) way' gl2 cl2 csl2 gs2 cs2 sw2 rows2 i' (svOf (r' i'))))
            (first | exact ⟨by go_keep, by go_keep, by go_keep, Lib.hid (HF0.out.below hin (below_drew1 (Below.refl _ _)))⟩ | (go_split_ands; exact ⟨cell_keep' hb (by assumption), cell_keep' hb (by assumption), cell_keep' hb (by assumption), Lib.hid (HFB.out _ _ (Hid.out (by assumption)) hb)⟩) | (go_split_ands; exact ⟨by go_keep, by go_keep, by go_keep, Lib.hid (HFS.out _ _ _ (Hid.out (by assumption)) (Hid.out (by assumption)))⟩))
            (first | (go_at_call 21; go_split_ands; (with_reducible refine (HSV.out _ (Hid.out (by assumption))).mono ?_); rintro e w' ⟨A, c, rfl, hrd, hb⟩; obtain ⟨v0, v1, v2, g0, g1, g2, gf0, gf1, gf2, gn1, gn2⟩ := HFA.out _ (HFB.out _ _ (Hid.out (by assumption)) hb); have gn3 := Ne.symm gn1; have gn4 := Ne.symm gn2; have HPQ := Lib.hid hrd; have HFW := Lib.hid (HFB.out _ _ (Hid.out (by assumption)) hb); clear hrd))
          all_goals
            go_split_ands
            go_wp2_with fail
            go_meet
            case rel => exact ⟨rfl, (HFT.out _ _ _ HFW.out HPQ.out).2, (HFT.out _ _ _ HFW.out HPQ.out).1.below_, (HFT.out _ _ _ HFW.out HPQ.out).1.rows9⟩
        case rest =>
        clear z0 y0 y1 y2 b0 b1 b2
        obtain ⟨rfl, hT, hB, hR9⟩ := hcut
        go_wp2_with fail
        go_ret
        refine ⟨rfl, ⟨p, ?_⟩, hB.out, hR9.out⟩
        rw [HMM.out]
        have e : upd (fun i => svOf (r i)) i' (svOf (r' i')) = fun i => svOf (r' i) := by
          funext j
          by_cases q : j = i'
          · rw [q, upd_same]
          · rw [upd_other _ _ q, HO.out j q]
        have hT' := hT.out
        rw [e] at hT'
        exact hT'
end Go.Proofs.Ytndnjmgmdkkifaa.Vw1
