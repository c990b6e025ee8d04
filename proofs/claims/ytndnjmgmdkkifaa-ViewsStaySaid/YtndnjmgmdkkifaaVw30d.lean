/- The walk of a team's step: x.f0 = 3 ∨ x.f0 = 4. -/
import Derived.Test.YtndnjmgmdkkifaaVw30
import Derived.Test.YtndnjmgmdkkifaaVw38
import Derived.Deep.DrawnRows
import Derived.Outline
import Derived.Deep.Cut
import Derived.Deep.CutRange
import Derived.Deep.CutBlock
import Derived.StillTailTactics
namespace Go.Proofs.Ytndnjmgmdkkifaa.Vw1
open Go Go.RowKit Go.Maps Go.Proofs Go.Proofs.Ytndnjmgmdkkifaa.New Go.Proofs.Ytndnjmgmdkkifaa.Vw Go.Proofs.Ytndnjmgmdkkifaa.Vw0 Go.Proofs.Ytndnjmgmdkkifaa.Q Go.Proofs.YtndnjmgmdkkifaaW.PrintWords Go.Proofs.YtndnjmgmdkkifaaW.PrintLast Go.Proofs.YtndnjmgmdkkifaaW.PrintMore
set_option linter.unusedVariables false
set_option linter.unusedSimpArgs false

attribute [local go_sem ↓] wp_storeL Go.wp_at_zero Go.wp_at_succ
set_option maxHeartbeats 4000000 in
set_option maxRecDepth 100000 in
theorem step_calls_d {B : Nat} {W : World} {tb n : Nat} {p : Nat → Nat} {r : Nat → V} {way : List St.Fly} (h : TM B W tb n p r (fun i => svOf (r i)) way) (x : S55) (hw0 : 0 ≤ x.f1) (hw1 : x.f1 < n) (hn : n ≤ 5) (hx4 : x.f4.size ≤ 140737488355328)
    (hwy : x.f0 = 3 ∨ x.f0 = 4) (hok : ∀ i, i < n → OkV (r i)) (hme : ∀ i, i < n → (r i).me = i ∧ (r i).many = n) (hway : way.length ≤ 200 ∧ ∀ f ∈ way, f.fr < n ∧ f.to_ < n) :
    Calls Try.prog 30 #[.pointer (some ⟨tb, 0, none⟩), .agg #[.int .i64 x.f0, .int .i64 x.f1, .int .i64 x.f2, .int .i64 x.f3, .string x.f4, .bool x.f5]] W fun e w' => e = .returned (.bool true) ∧ (∃ p', TM B w' tb n p' (St.moveT (mvOf x) (r, way)).1 (fun i => svOf ((St.moveT (mvOf x) (r, way)).1 i)) (St.moveT (mvOf x) (r, way)).2) ∧ Below B W w' ∧ Rows9 W w' := by
  have HWY := Lib.hid hwy
  clear hwy
  have H := Lib.hid h
  have HME := Lib.hid hme
  have HOK := Lib.hid hok
  have HWAY := Lib.hid hway
  have HX4 := Lib.hid hx4
  have hBW : B ≤ W.heap.size := parts_size h.parts (show x.f1.toNat < n by omega)
  obtain ⟨i0, hi0⟩ : ∃ i0 : Nat, x.f1 = (i0 : Int) := ⟨x.f1.toNat, by omega⟩
  have hi0n : i0 < n := by omega
  obtain ⟨_, _, gl, cl, csl, gs, cs, css, sw, rows, k1, _⟩ := h
  obtain ⟨b0, b1, b2⟩ := cells3 k1
  have htb := blk_lt k1
  have H1 := Lib.hid (H.out.below (below_alloc (Below.refl _ _) (boxM x)))
  have HB1 := Lib.hid ((Below.refl B W).alloc hBW (boxM x))
  have HR1 := Lib.hid (Rows9.below (below_alloc (Below.refl W.heap.size W) (boxM x)))
  have HBX := Lib.hid (blk_new W (boxM x))
  have HNL := Lib.hid (Nat.lt_of_lt_of_le htb (Nat.le_refl _))
  unfold boxM at H1 HB1 HR1 HBX
  rw [hi0] at H1 HB1 HR1 HBX
  have HI0 := Lib.hid hi0
  clear hme hway hx4 k1 hw0 hw1 hok
  go_enter Try.func30, Try.ntmps30
  go_upto_block 0 with (fail)
  generalize W.alloc (Obj.cells #[.int .i64 x.f0, .int .i64 (i0 : Int), .int .i64 x.f2, .int .i64 x.f3, .string x.f4, .bool x.f5] 55) = W1 at H1 HB1 HR1 HBX ⊢
  obtain ⟨g3, hg3⟩ : ∃ g3, W.heap.size = g3 := ⟨_, rfl⟩
  rw [hg3] at HBX ⊢
  have HG3 := Lib.hid (show B ≤ g3 by omega)
  clear b0 b1 b2 htb hg3 HNL hi0
  obtain ⟨gl1, cl1, csl1, gs1, cs1, css1, sw1, rows1, X1⟩ := H1.out.tx
  obtain ⟨Aw, cw, ew, hcw, hCw⟩ := Kd.R_reads X1.wrow
  subst ew
  have hrl : rows1.length = way.length := X1.way.1
  rw [hrl] at X1 hCw hcw
  have HX1 := Lib.hid X1
  obtain ⟨b0, b1, b2⟩ := cells3 X1.blk
  obtain ⟨m0, m1, m2, m3, m4, m5⟩ := cells6 HBX.out
  have z0 := (blk_cell X1.lblk i0).trans (X1.lat i0 hi0n)
  have HCW := Lib.hid hCw
  have htb := blk_lt X1.blk
  have hgl := blk_lt X1.lblk
  have hlg3 := blk_lt HBX.out
  clear X1 hCw hrl hcw
  have hx0 : 0 ≤ (i0 : Int) := by omega
  have hxn : (i0 : Int) < (n : Int) := by omega
  go_cut [6] (fun v6 wc => ∃ (i' : Nat) (r' : Nat → V) (way' : List St.Fly), v6 = .int .i64 i' ∧ Hid (i' < n ∧ ∀ j, j ≠ i' → r' j = r j) ∧ Hid (TM B wc tb n p r' (fun i => svOf (r i)) way') ∧ Hid (St.moveT (mvOf x) (r, way) = tailT x i' r r' way') ∧ Hid (wc.heap[g3]? = some (.cells #[.int .i64 x.f0, .int .i64 (i0 : Int), .int .i64 x.f2, .int .i64 x.f3, .string x.f4, .bool x.f5] 55 (0, 0))) ∧ Hid (Below B W wc) ∧ Hid (Rows9 W wc))
  case first =>
    have hwy := HWY.out
    clear HWY
    have hq0 : ¬ (x.f0 = 0 ∨ x.f0 = 1) := by omega
    have hq2 : ¬ x.f0 = 2 := by omega
    have hqe : ¬ (x.f0 < 0 ∨ 8 < x.f0) := by omega
    have hq3 : x.f0 = 3 ∨ x.f0 = 4 := by omega
    clear hwy
    have HM := Lib.hid (mv_34 HI0.out hq3 r way)
    have HSD := Lib.hid (fun w (hw : Below W1.heap.size W1 w) => pt_send ((H1.out.parts.below hw).pt hi0n) x.f2)
    have e0 : (x.f0 == 0) = false := beq_eq_false_iff_ne.2 (by omega)
    have e1 : (x.f0 == 1) = false := beq_eq_false_iff_ne.2 (by omega)
    have e2 : (x.f0 == 2) = false := beq_eq_false_iff_ne.2 (by omega)
    have key : (x.f0 == 3) = true ∨ ((x.f0 == 3) = false ∧ (x.f0 == 4) = true) := by
      rcases hq3 with e | e
      · left; rw [e]; rfl
      · right; rw [e]; exact ⟨rfl, rfl⟩
    clear hq0 hq2 hqe hq3
    go_upto_if 43 with (fail)
    (try simp only [Act.put, List.setIfInBounds_toArray, List.set_cons_zero, List.set_cons_succ])
    go_cut [43] (fun v43 wc => v43 = .bool true ∧ wc = W1)
    case first =>
      rcases key with e3 | ⟨e3, e4⟩
      · go_wp2_with fail
        go_meet
        case rel => exact ⟨by rw [e3], rfl⟩
      · go_wp2_with fail
        go_meet
        case rel => exact ⟨by first | rfl | rw [e4], rfl⟩
    case rest =>
    clear key
    obtain ⟨rfl, hwc⟩ := hcut
    have hwc2 := hwc.symm
    clear hwc
    subst hwc2
    obtain ⟨L, hL⟩ : ∃ L, (r i0).send x.f2 = L := ⟨_, rfl⟩
    have hll := send_len' (r i0) x.f2
    rw [hL] at HSD HM hll
    have HLL := Lib.hid hll
    have HLE := Lib.hid hL
    clear hL hll
    unfold ltrV at HSD
    go_upto_region 11 with (fail)
    (try simp only [Act.put, List.setIfInBounds_toArray, List.set_cons_zero, List.set_cons_succ])
    go_cut [7, 8] (fun v7 v8 wc => ∃ (gL : Nat) (A3 : Option Addr) (c3 : Nat), v7 = .pointer (some ⟨gL, 0, none⟩) ∧ v8 = .bool L.2 ∧ Hid (wc.heap[gL]? = some (.cells #[.int .i64 L.1.kind, .int .i64 L.1.view, .int .i64 L.1.normal, .int .i64 L.1.len, .int .i64 L.1.stays, .slice A3 L.1.log.length c3, .int .i64 L.1.num, .string L.1.text] 33 (0, 0))) ∧ Hid (Rd wc (.slice A3 L.1.log.length c3) L.1.log) ∧ Hid (Below W1.heap.size W1 wc))
    case first => as_aux_lemma =>
      clear HLL HM HLE HX1 HCW H1 HB1 HR1 HBX HG3 HI0 HOK HME HWAY HX4 H m0 m1 m3 m4 m5 b2
      go_region_held3 (fun w' => w'.cell? ⟨tb, 0, none⟩ = some (.slice (some ⟨gl1, 0, none⟩) n cl1) ∧ w'.cell? ⟨gl1, i0, none⟩ = some (.pointer (some ⟨p i0, 0, none⟩)) ∧ w'.cell? ⟨g3, 2, none⟩ = some (.int .i64 x.f2) ∧ Hid (Below W1.heap.size W1 w'))
        (first | with_reducible exact ⟨ck_drew b0, ck_drew z0, ck_drew m2, Lib.hid (bk_drew _)⟩ | with_reducible exact ⟨cell_keep0 (bk_row1 hb hs) b0, cell_keep0 (bk_row1 hb hs) z0, cell_keep0 (bk_row1 hb hs) m2, Lib.hid (bk_row1 hb hs)⟩ | with_reducible exact ⟨cell_keep0 (bk_row2 hb hs) b0, cell_keep0 (bk_row2 hb hs) z0, cell_keep0 (bk_row2 hb hs) m2, Lib.hid (bk_row2 hb hs)⟩ | with_reducible exact ⟨ck_call hb b0, ck_call hb z0, ck_call hb m2, Lib.hid (bk_call hb)⟩ | with_reducible exact ⟨ck_calloc hb _ b0, ck_calloc hb _ z0, ck_calloc hb _ m2, Lib.hid (bk_calloc hb _)⟩ | with_reducible exact ⟨ck_alloc _ b0, ck_alloc _ z0, ck_alloc _ m2, Lib.hid (bk_alloc _ _)⟩ | with_reducible exact ⟨ck_acall hb b0, ck_acall hb z0, ck_acall hb m2, Lib.hid (bk_acall hb)⟩)
        (first | (go_at_call 25; go_split_ands; (with_reducible refine (HSD.out _ (Hid.out (by assumption))).mono ?_); rintro e w' ⟨A3, c3, rfl, hr3, hb⟩; have HR3 := Lib.hid hr3; (first | (have HK := Lib.hid (show w'.heap[W1.heap.size]? = some (.cells #[.int .i64 0, .int .i64 0, .int .i64 0, .int .i64 0, .int .i64 0, .slice none 0 0, .int .i64 0, .string ⟨#[]⟩] 33 (0, 0)) from by with_reducible exact blk_below (blk_new W1.drew (Obj.cells #[.int .i64 0, .int .i64 0, .int .i64 0, .int .i64 0, .int .i64 0, .slice none 0 0, .int .i64 0, .string ⟨#[]⟩] 33)) hb)) | skip); clear hr3) | ((first | (with_reducible refine storeL_row HK.out (u0 := .int .i64 L.1.kind) (u1 := .int .i64 L.1.view) (u2 := .int .i64 L.1.normal) (u3 := .int .i64 L.1.len) (u4 := .int .i64 L.1.stays) (u5 := .slice A3 L.1.log.length c3) (u6 := .int .i64 L.1.num) (u7 := .string L.1.text) ?_ ?_ ?_ ?_ ?_) | (with_reducible refine storeL_row (blk_new _ _) (u0 := .int .i64 L.1.kind) (u1 := .int .i64 L.1.view) (u2 := .int .i64 L.1.normal) (u3 := .int .i64 L.1.len) (u4 := .int .i64 L.1.stays) (u5 := .slice A3 L.1.log.length c3) (u6 := .int .i64 L.1.num) (u7 := .string L.1.text) ?_ ?_ ?_ ?_ ?_)); rfl; rfl; rfl; rfl; intro w2 hs))
      · go_split_ands
        go_wp2_with fail
        go_meet
        case rel => exact ⟨_, A3, c3, rfl, rfl, Lib.hid hs.blk, Lib.hid ((HR3.out.below (below_alloc (Below.refl _ _) _)).rows9 (hs.rows9 (blk_new _ _) (by decide) (by decide))), by assumption⟩
      · go_split_ands
        go_wp2_with fail
        go_meet
        case rel => exact ⟨_, A3, c3, rfl, rfl, Lib.hid hs.blk, Lib.hid (HR3.out.rows9 (hs.rows9 HK.out (by decide) (by decide))), by assumption⟩
    case rest =>
      obtain ⟨gL, A3, c3, rfl, rfl, hLB, hLR, hBW⟩ := hcut
      have HXc := Lib.hid (HX1.out.below hBW.out)
      have HBXc := Lib.hid (blk_below HBX.out hBW.out)
      have HBc := Lib.hid (HB1.out.trans (hBW.out.mono (pt_size (H1.out.parts.pt hi0n))))
      have HRc := Lib.hid (HR1.out.trans (Rows9.below hBW.out))
      clear z0 b0 b1 b2 m0 m1 m2 m3 m4 m5 htb hgl hlg3 hx0 hxn HX1 HCW H1 HB1 HR1 HBX hBW HSD
      obtain ⟨_, _, q2⟩ := cells3 HXc.out.blk
      have qf2 := blk_frozen HXc.out.blk 2
      obtain ⟨L1, isb⟩ := L
      dsimp only at HM hLB hLR HLE ⊢
      cases isb with
      | false =>
        have HMF := Lib.hid (HM.out.trans (by rw [if_neg (by simp)]))
        go_wp2_with fail
        go_meet
        case rel => exact ⟨i0, r, way, rfl, ⟨hi0n, fun _ _ => rfl⟩, HXc.out.tm, HMF.out, HBXc.out, HBc.out, HRc.out⟩
      | true =>
        by_cases hw200 : way.length < 200
        · have HMT := Lib.hid (HM.out.trans (by rw [if_pos ⟨rfl, hw200⟩]))
          have hz : decide ((way.length : Int) < 200) = true := decide_eq_true (by omega)
          have hx2 : 0 ≤ x.f2 := send_to (s := r i0) (k := x.f2) (by rw [HLE.out])
          have HLL3 := Lib.hid (send_fit (HOK.out i0 hi0n) x.f2)
          rw [HLE.out] at HLL3
          have HFC := Lib.hid (show flyCells ⟨i0, x.f2.toNat, L1⟩ A3 c3 = [.int .i64 (i0 : Int), .int .i64 x.f2, .int .i64 L1.kind, .int .i64 L1.view, .int .i64 L1.normal, .int .i64 L1.len, .int .i64 L1.stays, .slice A3 L1.log.length c3, .int .i64 L1.num, .string L1.text] by unfold flyCells; rw [show ((x.f2.toNat : Nat) : Int) = x.f2 by omega])
          have HFK := Lib.hid (show [Value.int .i64 (i0 : Int), .int .i64 x.f2, .int .i64 L1.kind, .int .i64 L1.view, .int .i64 L1.normal, .int .i64 L1.len, .int .i64 L1.stays, .slice A3 L1.log.length c3, .int .i64 L1.num, .string L1.text].length = 10 ∧ ∀ u ∈ [Value.int .i64 (i0 : Int), .int .i64 x.f2, .int .i64 L1.kind, .int .i64 L1.view, .int .i64 L1.normal, .int .i64 L1.len, .int .i64 L1.stays, .slice A3 L1.log.length c3, .int .i64 L1.num, .string L1.text], u.oneCell' = true by rw [← HFC.out]; exact flyCells_ok _ _ _)
          have hrl2 : rows1.length ≤ 1000 := by have := HXc.out.way.1; omega
          have hBz : B ≤ wc.heap.size := parts_size HXc.out.parts hi0n
          have HBZ := Lib.hid hBz
          clear hw200 hx2 HM HLL HLE HI0 HOK HME HX4 H hBz
          go_upto_region 13 with (fail)
          (try simp only [Act.put, List.setIfInBounds_toArray, List.set_cons_zero, List.set_cons_succ])
          refine reg13 HXc HWAY.out.1 HBZ HBXc hLB HFK ?_
          intro u68 u69 u70 u71 u72 u73 u74 u75 u76 u77 u78 u79 u80 u81 Ag Ng cg w1 hr hb hg
          have HRW := Lib.hid hr
          have HBW1 := Lib.hid hb
          have HGW := Lib.hid hg
          clear hr hb hg
          go_wp2_with fail
          go_meet
          case rel =>
            rw [← HFC.out] at HRW
            obtain ⟨k1, k2, k3⟩ := HXc.out.fly_end HGW.out HBW1.out ⟨i0, x.f2.toNat, L1⟩ A3 c3 HRW.out hLR.out HLL3.out
            exact ⟨i0, r, _, rfl, ⟨hi0n, fun _ _ => rfl⟩, k1, HMT.out, HXc.out.fly_box HGW.out HBXc.out (by decide) (by decide), HBc.out.trans k3, HRc.out.trans k2⟩
        · have HMF := Lib.hid (HM.out.trans (by rw [if_neg (by omega)]))
          have hz : decide ((way.length : Int) < 200) = false := decide_eq_false (by omega)
          go_wp2_with fail
          go_meet
          case rel => exact ⟨i0, r, way, rfl, ⟨hi0n, fun _ _ => rfl⟩, HXc.out.tm, HMF.out, HBXc.out, HBc.out, HRc.out⟩
  case rest =>
    clear HWY z0 m0 m1 m2 m3 m4 m5 b0 b1 b2 htb hgl hlg3 HX1 HCW H1 HB1 HR1 HBX hx0 hxn hi0n HX4
    obtain ⟨i', r', way', rfl, HI, HT, HM, HBX, HB, HR⟩ := hcut
    obtain ⟨W5, rfl⟩ : ∃ W5 : World, W5 = wc := ⟨_, rfl⟩
    obtain ⟨gl2, cl2, csl2, gs2, cs2, css2, sw2, rows2, X2⟩ := HT.out.tx
    obtain ⟨hin, hoth⟩ := HI.out
    obtain ⟨b0, b1, b2⟩ := cells3 X2.blk
    obtain ⟨m0, m1, m2, m3, m4, m5⟩ := cells6 HBX.out
    have z0 := (blk_cell X2.lblk i').trans (X2.lat i' hin)
    obtain ⟨As, cs', s0, s1, s2, hrs⟩ := X2.sat i' hin
    have y0 := (blk_cell X2.sblk (i' * 3)).trans s0
    have y1 := (blk_cell X2.sblk (i' * 3 + 1)).trans s1
    have y2 := (blk_cell X2.sblk (i' * 3 + 2)).trans s2
    unfold svOf at y0 y1 y2 hrs
    dsimp only at y0 y1 y2 hrs
    have HX2 := Lib.hid X2
    have HRS := Lib.hid hrs
    have HO := Lib.hid hoth
    have hxn : (i' : Int) < (n : Int) := by omega
    have hx0 : 0 ≤ (i' : Int) := by omega
    clear X2 hoth s0 s1 s2 hrs
    go_upto_region 28 with (fail)
    (try simp only [Act.put, List.setIfInBounds_toArray, List.set_cons_zero, List.set_cons_succ])
    go_cut [168] (fun v168 wc => v168 = .bool (lostB x) ∧ wc = W5)
    case first => as_aux_lemma =>
      clear z0 y0 y1 y2 HX2 HRS HO HT HM HB HR hx0 hxn b0 b1 b2 m1 m2 m3 m4
      have hl : lostB x = ((x.f5 && (x.f0 != 3 && x.f0 != 4)) || x.f0 == 9) := rfl
      have HL := Lib.hid hl
      clear hl
      obtain ⟨v5, hv5⟩ : ∃ b, x.f5 = b := ⟨_, rfl⟩
      rw [hv5] at m5 HL
      clear hv5
      cases v5 with
      | false =>
        cases c9 : (x.f0 == 9) with
        | false =>
          rw [c9] at HL
          go_wp2_with fail
          go_meet
          case rel => exact ⟨by rw [HL.out]; rfl, rfl⟩
        | true =>
          rw [c9] at HL
          go_wp2_with fail
          go_meet
          case rel => exact ⟨by rw [HL.out]; rfl, rfl⟩
      | true =>
        cases c3 : (x.f0 != 3) with
        | false =>
          have e3 : x.f0 = 3 := by simpa using c3
          have c9 : (x.f0 == 9) = false := by rw [e3]; rfl
          rw [c3, c9] at HL
          clear e3
          go_wp2_with fail
          go_meet
          case rel => exact ⟨by rw [HL.out]; rfl, rfl⟩
        | true =>
          rw [c3] at HL
          cases c4 : (x.f0 != 4) with
          | false =>
            have e4 : x.f0 = 4 := by simpa using c4
            have c9 : (x.f0 == 9) = false := by rw [e4]; rfl
            rw [c4, c9] at HL
            clear e4
            go_wp2_with fail
            go_meet
            case rel => exact ⟨by rw [HL.out]; rfl, rfl⟩
          | true =>
            rw [c4] at HL
            go_wp2_with fail
            go_meet
            case rel => exact ⟨by rw [HL.out]; rfl, rfl⟩
    case rest =>
      obtain ⟨rfl, hwc⟩ := hcut
      subst hwc
      clear m0 m1 m2 m3 m4 m5
      have HLO := Lib.hid (show tailT x i' r r' way' = if lostB x = true then (St.upd r' i' (St.anew (r i')), way') else (r', way') from rfl)
      obtain ⟨lo, hlo⟩ : ∃ lo, lostB x = lo := ⟨_, rfl⟩
      rw [hlo] at HLO ⊢
      clear hlo
      cases lo with
      | true =>
        have HMM := Lib.hid (HM.out.trans (HLO.out.trans (if_pos rfl)))
        have hmn := HME.out i' hin
        have hok := (HT.out.parts.pt hin).ok
        have hnv : newV (i' : Int) (n : Int) (r i').view (r i').normal (r i').log = some (made (i' : Int) (n : Int) (r i').view (r i').normal (r i').log) := by
          have := newV_of' (HOK.out i' hin)
          rw [hmn.1, hmn.2] at this
          exact this
        have HNV := Lib.hid hnv
        have hanew : made (i' : Int) (n : Int) (r i').view (r i').normal (r i').log = St.anew (r i') := by
          unfold made St.anew
          rw [hmn.1, hmn.2]
        have HAN := Lib.hid hanew
        clear hnv hmn hok hanew
        have HNW := Lib.hid (fun w (hf : Fin29 wc B w tb n p r' (fun i => svOf (r i)) way' gl2 cl2 gs2 cs2 css2 sw2 rows2 i') => pt_new (W := w) HNV.out As cs' (HRS.out.rows9 hf.rows9).C1.2)
        have HF0 := Lib.hid (show Fin29 wc B wc tb n p r' (fun i => svOf (r i)) way' gl2 cl2 gs2 cs2 css2 sw2 rows2 i' from ⟨Below.refl _ _, Rows9.refl _, _, _, csl2, fun _ _ => ⟨rfl, rfl⟩, HX2.out⟩)
        have HFB := Lib.hid (fun w w' (hf : Fin29 wc B w tb n p r' (fun i => svOf (r i)) way' gl2 cl2 gs2 cs2 css2 sw2 rows2 i') (hb : Below w.heap.size w w') => Fin29.below hf hin hb)
        have HFA := Lib.hid (fun w (hf : Fin29 wc B w tb n p r' (fun i => svOf (r i)) way' gl2 cl2 gs2 cs2 css2 sw2 rows2 i') => Fin29.at_ hf hin)
        have HFT := Lib.hid (fun w w' q (hf : Fin29 wc B w tb n p r' (fun i => svOf (r i)) way' gl2 cl2 gs2 cs2 css2 sw2 rows2 i') (hb : Below w.heap.size w w') (hp : Pt w.heap.size w' q (made (i' : Int) (n : Int) (r i').view (r i').normal (r i').log)) => Fin29.store hf hin hb hp)
        go_upto_region 29 with (fail)
        (try simp only [Act.put, List.setIfInBounds_toArray, List.set_cons_zero, List.set_cons_succ])
        go_cut [6] (fun v6 wd => v6 = .int .i64 i' ∧ ∃ q : Nat, Hid (TM B wd tb n (upd p i' q) (upd r' i' (made (i' : Int) (n : Int) (r i').view (r i').normal (r i').log)) (fun i => svOf (r i)) way') ∧ Hid (Below B wc wd) ∧ Hid (Rows9 wc wd))
        case first => as_aux_lemma =>
          clear HAN HMM HLO HOK HME HWAY HI HG3 HI0 HM HNV HT HBX HB HR HX2 HRS HO z0
          go_region_held3 (fun w' => w'.cell? ⟨tb, 0, none⟩ = some (.slice (some ⟨gl2, 0, none⟩) n cl2) ∧ w'.cell? ⟨tb, 1, none⟩ = some (.slice (some ⟨gs2, 0, none⟩) n cs2) ∧ w'.cell? ⟨gs2, i' * 3, none⟩ = some (.int .i64 (r i').view) ∧ w'.cell? ⟨gs2, i' * 3 + 1, none⟩ = some (.int .i64 (r i').normal) ∧ w'.cell? ⟨gs2, i' * 3 + 2, none⟩ = some (.slice As (r i').log.length cs') ∧ Hid (Fin29 wc B w' tb n p r' (fun i => svOf (r i)) way' gl2 cl2 gs2 cs2 css2 sw2 rows2 i'))
            (first | exact ⟨by go_keep, by go_keep, by go_keep, by go_keep, by go_keep, Lib.hid (HF0.out.below hin (below_drew1 (Below.refl _ _)))⟩ | (go_split_ands; exact ⟨cell_keep' hb (by assumption), cell_keep' hb (by assumption), cell_keep' hb (by assumption), cell_keep' hb (by assumption), cell_keep' hb (by assumption), Lib.hid (HFB.out _ _ (Hid.out (by assumption)) hb)⟩) | (go_split_ands; exact ⟨by go_keep, by go_keep, by go_keep, by go_keep, by go_keep, HFD.out.1⟩))
            (first | (go_at_call 12; go_split_ands; (with_reducible refine (HNW.out _ (Hid.out (by assumption))).mono ?_); rintro e w' ⟨q, rfl, hpq, hb⟩; obtain ⟨v0, g0, gf0, gn1, gn2⟩ := HFA.out _ (HFB.out _ _ (Hid.out (by assumption)) hb); have gn3 := Ne.symm gn1; have gn4 := Ne.symm gn2; have HFD := Lib.hid (HFT.out _ _ _ (Hid.out (by assumption)) hb hpq); clear hpq))
          all_goals
            go_split_ands
            go_wp2_with fail
            go_meet
            case rel => exact ⟨rfl, q, HFD.out.2, HFD.out.1.below_, HFD.out.1.rows9⟩
        case rest =>
        clear z0 y0 y1 y2 b0 b1 b2
        obtain ⟨rfl, q, hT, hB, hR9⟩ := hcut
        have hT := hT.out
        rw [HAN.out] at hT
        have HRR := Lib.hid (HR.out.trans hR9.out)
        have HTT := Lib.hid hT
        have HBB := Lib.hid (HB.out.trans hB.out)
        obtain ⟨gl4, cl4, csl4, gs4, cs4, css4, sw4, rows4, X4⟩ := hT.tx
        obtain ⟨b0, b1, b2⟩ := cells3 X4.blk
        have z4 := (blk_cell X4.lblk i').trans (X4.lat i' hin)
        rw [upd_same] at z4
        clear hT hR9 hB X4 b1 b2
        go_wp2_with fail
        go_ret
        refine ⟨rfl, ⟨upd p i' q, ?_⟩, HBB.out, HRR.out⟩
        rw [HMM.out]
        have e : (fun i => svOf ((St.upd r' i' (St.anew (r i'))) i)) = fun i => svOf (r i) := by
          funext j
          by_cases q : j = i'
          · rw [q, St.upd_same]; rfl
          · rw [St.upd_other _ _ q, HO.out j q]
        show TM B _ tb n (upd p i' q) (St.upd r' i' (St.anew (r i'))) (fun i => svOf ((St.upd r' i' (St.anew (r i'))) i)) way'
        rw [e]
        exact HTT.out
      | false =>
        have HMM := Lib.hid (HM.out.trans (HLO.out.trans (if_neg (by decide))))
        have HSV := Lib.hid (fun w (hf : Fin31 W B w tb n p r' (fun i => svOf (r i)) way' gl2 cl2 csl2 gs2 cs2 sw2 rows2 i' (svOf (r' i'))) => (show Calls Try.prog 21 #[.pointer (some ⟨p i', 0, none⟩)] w fun e w' => ∃ A c, e = .returned (.agg #[.int .i64 (r' i').view, .int .i64 (r' i').normal, .slice A (r' i').log.length c]) ∧ Rd w' (.slice A (svOf (r' i')).2.2.length c) (svOf (r' i')).2.2 ∧ Below w.heap.size w w' from by
          obtain ⟨_, _, _, _, _, hx⟩ := hf
          exact pt_saved (hx.parts.pt hin)))
        have HF0 := Lib.hid (show Fin31 W B wc tb n p r' (fun i => svOf (r i)) way' gl2 cl2 csl2 gs2 cs2 sw2 rows2 i' (svOf (r' i')) from ⟨HB.out, HR.out, _, css2, fun _ _ => rfl, HX2.out⟩)
        have HFB := Lib.hid (fun w w' (hf : Fin31 W B w tb n p r' (fun i => svOf (r i)) way' gl2 cl2 csl2 gs2 cs2 sw2 rows2 i' (svOf (r' i'))) (hb : Below w.heap.size w w') => Fin31.below hf hin hb)
        have HFS := Lib.hid (fun w A c (hf : Fin31 W B w tb n p r' (fun i => svOf (r i)) way' gl2 cl2 csl2 gs2 cs2 sw2 rows2 i' (svOf (r' i'))) (hr : Rd w (.slice A (svOf (r' i')).2.2.length c) (svOf (r' i')).2.2) => (Fin31.store hf hin hr).1)
        have HFT := Lib.hid (fun w A c (hf : Fin31 W B w tb n p r' (fun i => svOf (r i)) way' gl2 cl2 csl2 gs2 cs2 sw2 rows2 i' (svOf (r' i'))) (hr : Rd w (.slice A (svOf (r' i')).2.2.length c) (svOf (r' i')).2.2) => Fin31.store hf hin hr)
        have HFA := Lib.hid (fun w (hf : Fin31 W B w tb n p r' (fun i => svOf (r i)) way' gl2 cl2 csl2 gs2 cs2 sw2 rows2 i' (svOf (r' i'))) => Fin31.at_ hf hin)
        unfold svOf at HFS
        dsimp only at HFS
        go_upto_region 31 with (fail)
        (try simp only [Act.put, List.setIfInBounds_toArray, List.set_cons_zero, List.set_cons_succ])
        go_cut [6] (fun v6 wd => v6 = .int .i64 i' ∧ Hid (TM B wd tb n p r' (upd (fun i => svOf (r i)) i' (svOf (r' i'))) way') ∧ Hid (Below B W wd) ∧ Hid (Rows9 W wd))
        case first => as_aux_lemma =>
          clear HMM HLO HOK HME HWAY HI HG3 HI0 HM HT HBX HB HR HX2 HRS HO y0 y1 y2
          go_region_held3 (fun w' => w'.cell? ⟨tb, 0, none⟩ = some (.slice (some ⟨gl2, 0, none⟩) n cl2) ∧ w'.cell? ⟨tb, 1, none⟩ = some (.slice (some ⟨gs2, 0, none⟩) n cs2) ∧ w'.cell? ⟨gl2, i', none⟩ = some (.pointer (some ⟨p i', 0, none⟩)) ∧ Hid (Fin31 W B w' tb n p r' (fun i => svOf (r i)) way' gl2 cl2 csl2 gs2 cs2 sw2 rows2 i' (svOf (r' i'))))
            (first | exact ⟨by go_keep, by go_keep, by go_keep, Lib.hid (HF0.out.below hin (below_drew1 (Below.refl _ _)))⟩ | (go_split_ands; exact ⟨cell_keep' hb (by assumption), cell_keep' hb (by assumption), cell_keep' hb (by assumption), Lib.hid (HFB.out _ _ (Hid.out (by assumption)) hb)⟩) | (go_split_ands; exact ⟨by go_keep, by go_keep, by go_keep, Lib.hid (HFS.out _ _ _ (Hid.out (by assumption)) (Hid.out (by assumption)))⟩))
            (first | (go_at_call 21; go_split_ands; (with_reducible refine (HSV.out _ (Hid.out (by assumption))).mono ?_); rintro e w' ⟨A, c, rfl, hrd, hb⟩; obtain ⟨v0, v1, v2, g0, g1, g2, gf0, gf1, gf2, gn1, gn2⟩ := HFA.out _ (HFB.out _ _ (Hid.out (by assumption)) hb); have gn3 := Ne.symm gn1; have gn4 := Ne.symm gn2; have HPQ := Lib.hid hrd; have HFW := Lib.hid (HFB.out _ _ (Hid.out (by assumption)) hb); clear hrd))
          all_goals
            go_split_ands
            go_wp2_with fail
            go_meet
            case rel => exact ⟨rfl, (HFT.out _ _ _ HFW.out HPQ.out).2, (HFT.out _ _ _ HFW.out HPQ.out).1.below_, (HFT.out _ _ _ HFW.out HPQ.out).1.rows9⟩
        case rest =>
        clear z0 y0 y1 y2 b0 b1 b2
        obtain ⟨rfl, hT, hB, hR9⟩ := hcut
        go_wp2_with fail
        go_ret
        refine ⟨rfl, ⟨p, ?_⟩, hB.out, hR9.out⟩
        rw [HMM.out]
        have e : upd (fun i => svOf (r i)) i' (svOf (r' i')) = fun i => svOf (r' i) := by
          funext j
          by_cases q : j = i'
          · rw [q, upd_same]
          · rw [upd_other _ _ q, HO.out j q]
        have hT' := hT.out
        rw [e] at hT'
        exact hT'
end Go.Proofs.Ytndnjmgmdkkifaa.Vw1
