/- The walk of ViewsSaved. -/
import Derived.Test.YtndnjmgmdkkifaaVw22
import Derived.Outline
import Derived.Deep.Cut
import Derived.Deep.CutRange
import Derived.Deep.CutBlock
import Derived.StillTailTactics
namespace Go.Proofs.Ytndnjmgmdkkifaa.Vw1
open Go Go.RowKit Go.Maps Go.Proofs Go.Proofs.Ytndnjmgmdkkifaa.New Go.Proofs.Ytndnjmgmdkkifaa.Vw Go.Proofs.Ytndnjmgmdkkifaa.Vw0 Go.Proofs.Ytndnjmgmdkkifaa.Q Go.Proofs.YtndnjmgmdkkifaaW.PrintWords Go.Proofs.YtndnjmgmdkkifaaW.PrintLast Go.Proofs.YtndnjmgmdkkifaaW.PrintMore
set_option linter.unusedVariables false
set_option linter.unusedSimpArgs false

def op0 : S35 := ⟨0, ByteArray.empty, 0, ⟨0, 0, 0, 0, 0, [], 0, ByteArray.empty⟩⟩
theorem add_ne (a : Addr) (j : Nat) (h : j ≠ 0) : a.add j = ⟨a.block, a.off + j, none⟩ := by unfold Addr.add; rw [if_neg h]
/-- a call out of a row of calls -/
theorem op_at {W wr : World} {A : Option Addr} {ops : List S35} (h : Kd.C k35 W A ops.length ops) (hb : Below W.heap.size W wr) (i : Nat) (hi : i < ops.length) :
    ∃ (ad : Addr) (A8 : Option Addr) (c8 : Nat), A = some ad ∧
      wr.cell? (ad.add (i * 11)) = some (.int .i64 ops[i].f0) ∧
      wr.cell? ⟨(ad.add (i * 11)).block, (ad.add (i * 11)).off + 1, none⟩ = some (.string ops[i].f1) ∧
      wr.cell? ⟨(ad.add (i * 11)).block, (ad.add (i * 11)).off + 2, none⟩ = some (.int .i64 ops[i].f2) ∧
      wr.cell? ⟨(ad.add (i * 11)).block, (ad.add (i * 11)).off + 3, none⟩ = some (.int .i64 ops[i].f3.f0) ∧
      wr.cell? ⟨(ad.add (i * 11)).block, (ad.add (i * 11)).off + 3 + 1, none⟩ = some (.int .i64 ops[i].f3.f1) ∧
      wr.cell? ⟨(ad.add (i * 11)).block, (ad.add (i * 11)).off + 3 + 2, none⟩ = some (.int .i64 ops[i].f3.f2) ∧
      wr.cell? ⟨(ad.add (i * 11)).block, (ad.add (i * 11)).off + 3 + 3, none⟩ = some (.int .i64 ops[i].f3.f3) ∧
      wr.cell? ⟨(ad.add (i * 11)).block, (ad.add (i * 11)).off + 3 + 4, none⟩ = some (.int .i64 ops[i].f3.f4) ∧
      wr.cell? ⟨(ad.add (i * 11)).block, (ad.add (i * 11)).off + 3 + 5, none⟩ = some (.slice A8 ops[i].f3.f5.length c8) ∧
      wr.cell? ⟨(ad.add (i * 11)).block, (ad.add (i * 11)).off + 3 + 6, none⟩ = some (.int .i64 ops[i].f3.f6) ∧
      wr.cell? ⟨(ad.add (i * 11)).block, (ad.add (i * 11)).off + 3 + 7, none⟩ = some (.string ops[i].f3.f7) ∧
      Kd.C Kd.string W A8 ops[i].f3.f5.length ops[i].f3.f5 := by
  obtain ⟨ad, cc, ea, _, hK, hcc⟩ := Kd.C_get h op0 (i : Int) (by omega) (by omega)
  rw [Int.toNat_natCast, List.getD_eq_getElem?_getD, List.getElem?_eq_getElem hi] at hK
  obtain ⟨A8, c8, rfl, _, hC⟩ := k35_open hK
  rw [Int.toNat_natCast] at hcc
  have key : ∀ j u, _ → wr.cell? (ad.add (i * 11 + j)) = some u := fun j u hu => (hb.cell (World.block_lt_of_cell? W _ (hcc j u hu))).trans (hcc j u hu)
  have go : ∀ j, j ≠ 0 → ad.add (i * 11 + j) = ⟨(ad.add (i * 11)).block, (ad.add (i * 11)).off + j, none⟩ := fun j hj => by
    rw [← add_add]
    exact add_ne _ j hj
  exact ⟨ad, A8, c8, ea, key 0 _ rfl, (go 1 (by decide)) ▸ key 1 _ rfl, (go 2 (by decide)) ▸ key 2 _ rfl, (go 3 (by decide)) ▸ key 3 _ rfl, (go 4 (by decide)) ▸ key 4 _ rfl, (go 5 (by decide)) ▸ key 5 _ rfl, (go 6 (by decide)) ▸ key 6 _ rfl, (go 7 (by decide)) ▸ key 7 _ rfl, (go 8 (by decide)) ▸ key 8 _ rfl, (go 9 (by decide)) ▸ key 9 _ rfl, (go 10 (by decide)) ▸ key 10 _ rfl, hC⟩
theorem cell_keep {w w1 : World} (hb : Below w.heap.size w w1) {a : Addr} {v : Value} (h : w.cell? a = some v) : w1.cell? a = some v := (hb.cell (World.block_lt_of_cell? w _ h)).trans h
theorem step_fin {B : Nat} {W w w' : World} {p g : Nat} {s : V} {cs : Array Value} {fr : Nat × Nat} (hp : Pt B w p s) (hs : Stp B p w w') (hb : Below W.heap.size W w) (hB : W.heap.size ≤ B) (hq : w.heap[g]? = some (.cells cs 24 fr)) : Below W.heap.size W w' ∧ w'.heap[g]? = some (.cells cs 24 fr) :=
  ⟨hb.trans (hs.below.mono hB), hs.row hp (by decide) hq⟩
set_option maxHeartbeats 8000000 in
set_option maxRecDepth 100000 in
theorem saved_walk {W : World} (me many vw nm : Int) (A0 : Option Addr) (c0 : Nat) (sl : Log) (A1 : Option Addr) (c1 : Nat) (ops : List S35) (h0 : Kd.C Kd.string W A0 sl.length sl) (h1 : Kd.C k35 W A1 ops.length ops) (hl0 : sl.length ≤ 100000000000000) (hl1 : ops.length ≤ 100000000000000) (hl2 : ∀ o ∈ ops, o.f3.f5.length ≤ 100000000000000 ∧ o.f1.size ≤ 140737488351232) :
    Calls Try.prog 6 #[.int .i64 me, .int .i64 many, .agg #[.int .i64 vw, .int .i64 nm, .slice A0 sl.length c0], .slice A1 ops.length c1] W fun e w' => e = .returned (.bool true) ∧ Below W.heap.size W w' := by
  have HHD := Lib.hid (fun w => head_calls w)
  have HG0 := Lib.hid (fun w (hw : Below W.heap.size W w) => great_calls A0 c0 sl (Kd.C_below h0 hw) hl0)
  have H0 := Lib.hid h0
  have H1 := Lib.hid h1
  have HL2 := Lib.hid hl2
  clear h0 h1 hl2
  go_enter Try.func6, Try.ntmps6
  go_wp2_with fail
  refine (HHD.out _).mono ?_
  rintro e w1 ⟨rfl, hb1⟩
  have HQ6 := Lib.hid (blk_below (blk_new W (Obj.cells #[.int .i64 vw, .int .i64 nm, .slice A0 sl.length c0] 24)) hb1)
  have HB1 := Lib.hid (below_step (below_alloc (Below.refl _ _) _) hb1)
  obtain ⟨a0, a1, a2⟩ := cells3 HQ6.out
  clear hb1 HHD
  cases g0 : greatB sl with
  | true =>
    rw [g0] at HG0
    go_wp2_with (go_at_call 11; refine (HG0.out _ HB1.out).mono ?_; rintro e w2 ⟨rfl, rfl⟩)
    go_ret
    exact ⟨rfl, HB1.out⟩
  | false =>
    rw [g0] at HG0
    have HF0 := Lib.hid (great_no g0)
    clear g0
    by_cases hop : ops.length > 60
    · have hop2 : decide ((ops.length : Int) > 60) = true := decide_eq_true (by omega)
      go_wp2_with (go_at_call 11; refine (HG0.out _ HB1.out).mono ?_; rintro e w2 ⟨rfl, rfl⟩)
      go_ret
      exact ⟨rfl, HB1.out⟩
    · have hop2 : decide ((ops.length : Int) > 60) = false := decide_eq_false (by omega)
      have hop3 : ops.length ≤ 60 := by omega
      go_wp2_with fail
      refine (HG0.out _ HB1.out).mono ?_
      rintro e w2 ⟨rfl, rfl⟩
      clear HG0
      go_wp2_with fail
      cases hn : newV me many vw nm sl with
      | none =>
        refine (new_nil hn A0 c0 (Kd.C_below H0.out HB1.out) (by have := HF0.out.1; omega) (fun s hs => by have := HF0.out.2 s hs; omega)).mono ?_
        rintro e w3 ⟨rfl, hb3⟩
        have HB3 := Lib.hid (below_step HB1.out hb3)
        clear hb3 hn
        go_wp2_with fail
        go_ret
        exact ⟨rfl, HB3.out⟩
      | some s0 =>
        refine (pt_new hn A0 c0 (Kd.C_below H0.out HB1.out)).mono ?_
        rintro e w3 ⟨p, rfl, hp, hb3⟩
        obtain ⟨hnf, hs⟩ := newV_some hn
        have HM0 := Lib.hid (show s0.me = me ∧ s0.many = many by rw [hs]; exact ⟨rfl, rfl⟩)
        have HNF := Lib.hid hnf
        have HB3 := Lib.hid (below_step HB1.out hb3)
        have HP3 := Lib.hid hp
        have HZ := Lib.hid HB1.out.size
        obtain ⟨B, hBB⟩ : ∃ B, w2.heap.size = B := ⟨_, rfl⟩
        rw [hBB] at HP3 HZ
        clear hp hb3 hn hs hnf hBB HQ6 a0 a1 a2
        go_wp2_with fail
        go_loopg [11] (ops.length) (fun gg s11 wr => ∃ (i : Nat) (s : V), i ≤ ops.length ∧ ops.length - i ≤ gg ∧ s11 = .int .i64 i ∧ Hid (Pt B wr p s) ∧ Hid (s.me = me ∧ s.many = many) ∧ Hid (Below W.heap.size W wr))
        case atStart => exact ⟨0, s0, Nat.zero_le _, by omega, rfl, HP3.out, HM0.out, HB3.out⟩
        case round =>
          clear hop2 HP3 HB3 HM0 HB1 HF0
          obtain ⟨i, s, hi, hg, rfl, HP, HM, HB⟩ := hrel
          obtain ⟨W1, rfl⟩ : ∃ W1 : World, W1 = wr := ⟨_, rfl⟩
          by_cases hlt : i < ops.length
          · have hltz : decide ((i : Int) < (ops.length : Int)) = true := decide_eq_true (by omega)
            have hltz2 : (i : Int) < (ops.length : Int) := by omega
            obtain ⟨ad, A8, c8, ea, x0, x1, x2, x3, x4, x5, x6, x7, x8, x9, x10, hC8⟩ := op_at H1.out HB.out i hlt
            have HLo := Lib.hid (HL2.out ops[i] (List.getElem_mem hlt))
            obtain ⟨o, ho⟩ : ∃ o, ops[i] = o := ⟨_, rfl⟩
            rw [ho] at x0 x1 x2 x3 x4 x5 x6 x7 x8 x9 x10 hC8 HLo
            have HOI := Lib.hid ho
            clear ho
            have HG := Lib.hid (fun w (hw : Below W.heap.size W w) => great_calls A8 c8 o.f3.f5 (Kd.C_below hC8 hw) HLo.out.1)
            have HC8 := Lib.hid hC8
            clear hC8
            cases ea
            cases g1 : greatB o.f3.f5 with
            | true =>
              rw [g1] at HG
              go_wp2_with (go_at_call 11; refine (HG.out _ HB.out).mono ?_; rintro e w4 ⟨rfl, rfl⟩)
              go_ret
              exact ⟨rfl, HB.out⟩
            | false =>
              rw [g1] at HG
              have HF1 := Lib.hid (great_no g1)
              clear g1
              by_cases hen : o.f1.size > 9000
              · have hen2 : decide ((o.f1.size : Int) > 9000) = true := decide_eq_true (by omega)
                go_wp2_with (go_at_call 11; refine (HG.out _ HB.out).mono ?_; rintro e w4 ⟨rfl, rfl⟩)
                go_ret
                exact ⟨rfl, HB.out⟩
              · have hen2 : decide ((o.f1.size : Int) > 9000) = false := decide_eq_false (by omega)
                go_wp2_with fail
                refine (HG.out _ HB.out).mono ?_
                rintro e w4 ⟨rfl, rfl⟩
                go_wp2_with fail
                have HEN := Lib.hid (show o.f1.size ≤ 140737488355328 by omega)
                clear HG hen2 hltz hen
                refine (pt_saved HP.out).mono ?_
                rintro e w5 ⟨A5, c5, rfl, hr5, hb5⟩
                have HP5 := Lib.hid ((HP.out.below hb5).below (below_alloc (Below.refl _ _) (Obj.cells #[.int .i64 s.view, .int .i64 s.normal, .slice A5 s.log.length c5] 24)))
                have HB5 := Lib.hid (below_alloc (below_step HB.out hb5) (Obj.cells #[.int .i64 s.view, .int .i64 s.normal, .slice A5 s.log.length c5] 24))
                have HQ5 := Lib.hid (blk_new w5 (Obj.cells #[.int .i64 s.view, .int .i64 s.normal, .slice A5 s.log.length c5] 24))
                clear hr5 hb5 x0 x1 x2 x3 x4 x5 x6 x7 x8 x9 x10
                go_wp2_with fail
                obtain ⟨W5, hW5⟩ : ∃ W5, w5.alloc (Obj.cells #[.int .i64 s.view, .int .i64 s.normal, .slice A5 s.log.length c5] 24) = W5 := ⟨_, rfl⟩
                obtain ⟨g5, hg5⟩ : ∃ g5, w5.heap.size = g5 := ⟨_, rfl⟩
                rw [hW5] at HP5 HB5 HQ5 ⊢
                rw [hg5] at HQ5 ⊢
                clear hW5 hg5
                refine (pt_stays HP5.out).mono ?_
                rintro e w6 ⟨rfl, rfl⟩
                obtain ⟨ad', A9, c9, ea, x0, x1, x2, x3, x4, x5, x6, x7, x8, x9, x10, hC9⟩ := op_at H1.out HB5.out i hlt
                cases ea
                rw [HOI.out] at x0 x1 x2 x3 x4 x5 x6 x7 x8 x9 x10 hC9
                have HC9 := Lib.hid hC9
                clear hC9
                go_upto_if 70 with (fail)
                have HO := Lib.hid HP.out.ok
                go_cut [13] (fun v13 wc => v13 = .int .i64 s.stays ∧ Hid (Pt B wc p (opV s o)) ∧ Hid (Mono s (opV s o)) ∧ Hid (Below W.heap.size W wc) ∧ Hid (wc.heap[g5]? = some (Obj.cells #[.int .i64 s.view, .int .i64 s.normal, .slice A5 s.log.length c5] 24)))
                case first => as_aux_lemma =>
                  by_cases k1 : o.f0 < 2
                  · have HV := Lib.hid (show opV s o = (s.propose o.f1).1 by unfold opV; rw [if_pos k1])
                    go_wp2_with fail
                    refine (pt_propose HP5.out o.f1 HEN.out).mono ?_
                    rintro e w7 ⟨rfl, hp7, hs7⟩
                    have HF7 := Lib.hid (step_fin HP5.out hs7 HB5.out HZ.out HQ5.out)
                    have HP7 := Lib.hid hp7
                    clear hp7 hs7
                    go_wp2_with fail
                    go_meet
                    case rel => exact ⟨rfl, by rw [HV.out]; exact HP7.out, by rw [HV.out]; exact mono_propose _, HF7.out.1, HF7.out.2⟩
                  · by_cases k2 : o.f0 = 2
                    · have HV := Lib.hid (show opV s o = s.turn.1 by unfold opV; rw [if_neg k1, if_pos k2])
                      have k3 : (o.f0 == 2) = true := beq_iff_eq.2 k2
                      have k4 : decide (o.f0 < 2) = false := decide_eq_false k1
                      clear k2
                      go_wp2_with fail
                      refine (pt_turn HP5.out).mono ?_
                      rintro e w7 ⟨rfl, hp7, hs7⟩
                      have HF7 := Lib.hid (step_fin HP5.out hs7 HB5.out HZ.out HQ5.out)
                      have HP7 := Lib.hid hp7
                      clear hp7 hs7
                      go_wp2_with fail
                      go_meet
                      case rel => exact ⟨rfl, by rw [HV.out]; exact HP7.out, by rw [HV.out]; exact mono_turn HO.out, HF7.out.1, HF7.out.2⟩
                    · have HV := Lib.hid (show opV s o = (s.take o.f2 (ltrOf o.f3)).1 by unfold opV; rw [if_neg k1, if_neg k2])
                      have k3 : (o.f0 == 2) = false := beq_eq_false_iff_ne.2 k2
                      have k4 : decide (o.f0 < 2) = false := decide_eq_false k1
                      clear k2
                      have HTK := Lib.hid (fun w (hw : Below w6.heap.size w6 w) => (pt_take (HP5.out.below hw) o.f2 (ltrOf o.f3) A9 c9 (Far.of_arg HC9.out HZ.out (HB5.out.trans (hw.mono HB5.out.size))) (by have := HF1.out.1; show o.f3.f5.length ≤ _; omega) (fun z hz => by have := HF1.out.2 z hz; omega)).mono fun e w7 ⟨h1, h2, h3⟩ => (⟨h1, h2, step_fin (HP5.out.below hw) h3 (HB5.out.trans (hw.mono HB5.out.size)) HZ.out (blk_below HQ5.out hw)⟩ : _ ∧ _ ∧ _))
                      unfold ltrV ltrOf at HTK
                      go_wp2_with fail
                      go_still_tail 11, (by kernel_rfl)
                      change wpList _ _ _ _ _ w6.drew
                      have HTK2 := Lib.hid (HTK.out _ (below_drew1 (Below.refl _ _)))
                      generalize w6.drew = w8 at HTK2 ⊢
                      go_wp2_with fail
                      refine HTK2.out.mono ?_
                      rintro e w7 ⟨rfl, hp7, hf7⟩
                      have HF7 := Lib.hid hf7
                      have HP7 := Lib.hid hp7
                      clear hp7 hf7
                      go_wp2_with fail
                      go_meet
                      case rel => exact ⟨rfl, by rw [HV.out]; exact HP7.out, by rw [HV.out]; exact mono_take HO.out _ _, HF7.out.1, HF7.out.2⟩
                case rest =>
                  clear x0 x1 x2 x3 x4 x5 x6 x7 x8 x9 x10 HC9 HEN HF1 HC8 HLo HO HOI HP HP5 HB HB5 HQ5
                  obtain ⟨rfl, HP7, HMO, HB7, HQ7⟩ := hcut
                  obtain ⟨t, ht⟩ : ∃ t, opV s o = t := ⟨_, rfl⟩
                  rw [ht] at HP7 HMO
                  clear ht
                  go_wp2_with fail
                  refine (pt_saved HP7.out).mono ?_
                  rintro e w9 ⟨A9, c9, rfl, hr9, hb9⟩
                  have HP9 := Lib.hid (HP7.out.below hb9)
                  have HB9 := Lib.hid (below_step HB7.out hb9)
                  have HQ9 := Lib.hid (blk_below HQ7.out hb9)
                  have HR9 := Lib.hid hr9.C1.2
                  clear hr9 hb9 HP7 HB7 HQ7
                  have hl5 := blk_lt HQ9.out
                  obtain ⟨x0, x1, x2⟩ := cells3 HQ9.out
                  have HST := Lib.hid (fun w (hw : Below w9.heap.size w9 w) => pt_stays (HP9.out.below hw))
                  have HW9 := Lib.hid (below_alloc (Below.refl w9.heap.size w9) (Obj.cells #[.int .i64 t.view, .int .i64 t.normal, .slice A9 t.log.length c9] 24))
                  have d1 : decide (t.view < s.view) = false := decide_eq_false (by have := HMO.out.view; omega)
                  have d2 : decide (t.normal < s.normal) = false := decide_eq_false (by have := HMO.out.normal; omega)
                  have d3 : decide (t.normal > t.view) = false := decide_eq_false (by have := HP9.out.ok.normal; omega)
                  have d4 : decide (t.stays < s.stays) = false := decide_eq_false (by have := HMO.out.stays; omega)
                  have e1 : ¬ t.view < s.view := by have := HMO.out.view; omega
                  have e2 : ¬ t.normal < s.normal := by have := HMO.out.normal; omega
                  have e3 : ¬ t.view < t.normal := by have := HP9.out.ok.normal; omega
                  have e4 : ¬ t.stays < s.stays := by have := HMO.out.stays; omega
                  have key : (t.stays > (t.log.length : Int) ∧ ¬ s.stays < t.stays) ∨ ¬ t.stays > (t.log.length : Int) := by
                    by_cases c : t.stays > (t.log.length : Int)
                    · exact .inl ⟨c, fun h => by have := HMO.out.more h; omega⟩
                    · exact .inr c
                  have HKEY := Lib.hid key
                  clear key
                  go_upto_region 20 with (fail)
                  (try simp only [Act.put, List.setIfInBounds_toArray, List.set_cons_zero, List.set_cons_succ])
                  go_cut [145] (fun v145 wc => v145 = .bool false ∧ ∃ m, wc = (w9.alloc (Obj.cells #[.int .i64 t.view, .int .i64 t.normal, .slice A9 t.log.length c9] 24)).drewN m)
                  case first => as_aux_lemma =>
                    rcases HKEY.out with ⟨d5, d6⟩ | d5
                    · have f5 : decide (t.stays > (t.log.length : Int)) = true := decide_eq_true d5
                      have f6 : decide (t.stays > s.stays) = false := decide_eq_false (by omega)
                      go_wp2_with fail
                      go_quiet ((go_at_call 22; exact Calls.quiet_of_same (HST.out _ (pw_below_drewN HW9.out _))))
                      go_wp2_with fail
                      go_meet
                      case rel => exact ⟨rfl, _, rfl⟩
                    · have f5 : decide (t.stays > (t.log.length : Int)) = false := decide_eq_false (by omega)
                      go_wp2_with fail
                      go_quiet ((go_at_call 22; exact Calls.quiet_of_same (HST.out _ (pw_below_drewN HW9.out _))))
                      go_wp2_with fail
                      go_meet
                      case rel => exact ⟨rfl, _, rfl⟩
                  case rest =>
                  clear HKEY HST d1 d2 d3 d4 e1 e2 e3 e4 x0 x1 x2
                  obtain ⟨rfl, m, rfl⟩ := hcut
                  have HW10 := Lib.hid (pw_below_drewN HW9.out m)
                  have HTM := Lib.hid (show t.me = me ∧ t.many = many from ⟨HMO.out.me.trans HM.out.1, HMO.out.many.trans HM.out.2⟩)
                  have hn : newV me many t.view t.normal t.log = some (made me many t.view t.normal t.log) := by
                    have := newV_of HP9.out.ok
                    rw [HTM.out.1, HTM.out.2] at this
                    exact this
                  have HN := Lib.hid hn
                  clear hn
                  have HQ10 := Lib.hid (blk_drewN (blk_new w9 (Obj.cells #[.int .i64 t.view, .int .i64 t.normal, .slice A9 t.log.length c9] 24)) m)
                  have hm1 := HNF.out.1
                  have hm2 := HNF.out.2.1
                  go_wp2_with fail
                  refine (pt_new HN.out A9 c9 (Kd.C_below HR9.out HW10.out)).mono ?_
                  rintro e w10 ⟨q, rfl, hpq, hb10⟩
                  have HPX := Lib.hid hpq
                  have HP10 := Lib.hid ((HP9.out.below HW10.out).below hb10)
                  have HB10 := Lib.hid (below_step (below_step HB9.out HW10.out) hb10)
                  have hq10 := blk_below HQ10.out hb10
                  have HQ11 := Lib.hid hq10
                  have HR10 := Lib.hid (Kd.C_below (Kd.C_below HR9.out HW10.out) hb10)
                  obtain ⟨B2, hB2⟩ : ∃ B2, (((w9.alloc (Obj.cells #[.int .i64 t.view, .int .i64 t.normal, .slice A9 t.log.length c9] 24)).drewN m)).heap.size = B2 := ⟨_, rfl⟩
                  rw [hB2] at HPX
                  obtain ⟨g14, hg14⟩ : ∃ g14, w9.heap.size = g14 := ⟨_, rfl⟩
                  rw [hg14] at HQ11
                  have hfix : blk_lt hq10 = blk_lt hq10 := rfl
                  rw [hg14]
                  clear hpq hb10 HQ10 hq10 HR9 HP9 HB9 hl5 hB2 hg14 hfix HW9 HW10 HQ9
                  obtain ⟨y0, y1, y2⟩ := cells3 HQ11.out
                  have HSX := Lib.hid (fun w (hw : Below w10.heap.size w10 w) => (show Calls Try.prog 21 #[.pointer (some ⟨q, 0, none⟩)] w fun e w' => ∃ A c, e = .returned (.agg #[.int .i64 t.view, .int .i64 t.normal, .slice A t.log.length c]) ∧ Rd w' (.slice A t.log.length c) t.log ∧ Below w.heap.size w w' from by have h := pt_saved (HPX.out.below hw); exact h))
                  have HSS := Lib.hid (fun w A c (hw : Below w10.heap.size w10 w) (hc : Kd.C Kd.string w A t.log.length t.log) => sameSaved_calls (W := w) t.view t.normal A c t.log t.view t.normal A9 c9 t.log hc (Kd.C_below HR10.out hw) (by have := rightL_len HP10.out.ok.log; omega) (by have := rightL_len HP10.out.ok.log; omega))
                  rw [show sameS t.view t.normal t.log t.view t.normal t.log = true from sameS_self _ _ _] at HSS
                  have HFX := Lib.hid (fun w (hw : Below w10.heap.size w10 w) => (show Calls Try.prog 23 #[.pointer (some ⟨q, 0, none⟩)] w fun e w' => e = .returned (.bool t.firstB) ∧ Below w.heap.size w w' from (pt_first (HPX.out.below hw)).mono fun e w' ⟨h1, m, h2⟩ => ⟨by rw [h1, ← made_first t, HTM.out.1, HTM.out.2], by rw [h2]; exact pw_below_drewN (Below.refl _ _) _⟩))
                  have HFP := Lib.hid (fun w (hw : Below w10.heap.size w10 w) => (show Calls Try.prog 23 #[.pointer (some ⟨p, 0, none⟩)] w fun e w' => e = .returned (.bool t.firstB) ∧ Below w.heap.size w w' from (pt_first (HP10.out.below hw)).mono fun e w' ⟨h1, m, h2⟩ => ⟨h1, by rw [h2]; exact pw_below_drewN (Below.refl _ _) _⟩))
                  have HYX := Lib.hid (fun w (hw : Below w10.heap.size w10 w) => (show Calls Try.prog 22 #[.pointer (some ⟨q, 0, none⟩)] w fun e w' => e = .returned (.int .i64 0) ∧ Below w.heap.size w w' from (pt_stays (HPX.out.below hw)).mono fun e w' ⟨h1, h2⟩ => ⟨h1, by rw [h2]; exact Below.refl _ _⟩))
                  obtain ⟨fb, hfb⟩ : ∃ fb, t.firstB = fb := ⟨_, rfl⟩
                  rw [hfb] at HFX HFP
                  clear hfb
                  have hff : (fb != fb) = false := by cases fb <;> rfl
                  go_upto_region 23 with (fail)
                  (try simp only [Act.put, List.setIfInBounds_toArray, List.set_cons_zero, List.set_cons_succ])
                  go_cut [170] (fun v170 wc => v170 = .bool false ∧ Hid (Below w10.heap.size w10 wc))
                  case first => as_aux_lemma =>
                    go_region_held3 (fun w' => w'.cell? ⟨g14, 0, none⟩ = some (.int .i64 t.view) ∧ w'.cell? ⟨g14, 1, none⟩ = some (.int .i64 t.normal) ∧ w'.cell? ⟨g14, 2, none⟩ = some (.slice A9 t.log.length c9) ∧ Hid (Below w10.heap.size w10 w'))
                      (first | exact ⟨by go_keep, by go_keep, by go_keep, Lib.hid (below_drew1 (Below.refl _ _))⟩ | (go_split_ands; exact ⟨cell_keep hb (by assumption), cell_keep hb (by assumption), cell_keep hb (by assumption), Lib.hid (below_step (Hid.out (by assumption)) hb)⟩))
                      (first | (go_at_call 21; go_split_ands; (with_reducible refine (HSX.out _ (Hid.out (by assumption))).mono ?_); rintro e w' ⟨A12, c12, rfl, hr, hb⟩; have HR12 := Lib.hid hr.C1.2; clear hr) | (go_at_call 20; go_split_ands; (with_reducible refine (HSS.out _ _ _ (Hid.out (by assumption)) (Hid.out (by assumption))).mono ?_); rintro e w' ⟨rfl, hb⟩) | (go_at_call 23; go_split_ands; (with_reducible refine (HFX.out _ (Hid.out (by assumption))).mono ?_); rintro e w' ⟨rfl, hb⟩) | (go_at_call 23; go_split_ands; (with_reducible refine (HFP.out _ (Hid.out (by assumption))).mono ?_); rintro e w' ⟨rfl, hb⟩) | (go_at_call 22; go_split_ands; (with_reducible refine (HYX.out _ (Hid.out (by assumption))).mono ?_); rintro e w' ⟨rfl, hb⟩))
                    go_split_ands
                    go_wp2_with fail
                    go_meet
                    case rel => exact ⟨rfl, by assumption⟩
                  case rest =>
                  clear HSX HSS HFX HFP HYX hff y0 y1 y2
                  obtain ⟨rfl, HB11⟩ := hcut
                  obtain ⟨W11, rfl⟩ : ∃ W11 : World, W11 = wc := ⟨_, rfl⟩
                  have HPX2 := Lib.hid (HPX.out.below HB11.out)
                  have HPP2 := Lib.hid (HP10.out.below HB11.out)
                  have HBW := Lib.hid (below_step HB10.out HB11.out)
                  clear HPX HP10 HB10 HB11 HQ11 HR10 HN
                  go_wp2_with fail
                  go_loopg [16] (many.toNat) (fun gg s16 wr => ∃ k : Nat, (k : Int) ≤ many ∧ many.toNat - k ≤ gg ∧ s16 = .int .i64 k ∧ Hid (Below W11.heap.size W11 wr))
                  case atStart => exact ⟨0, by omega, by omega, rfl, Below.refl _ _⟩
                  case round =>
                    obtain ⟨k, hk, hgk, rfl, HBK⟩ := hrel
                    obtain ⟨W12, rfl⟩ : ∃ W12 : World, W12 = wr := ⟨_, rfl⟩
                    by_cases hkm : (k : Int) < many
                    · have hkd : decide ((k : Int) < many) = true := decide_eq_true hkm
                      go_wp2_with fail
                      refine (pt_send (HPP2.out.below HBK.out) (k : Int)).mono ?_
                      rintro e w13 ⟨A13, c13, rfl, hr13, hb13⟩
                      obtain ⟨L, hL⟩ : ∃ L, t.send (k : Int) = L := ⟨_, rfl⟩
                      rw [hL] at hr13
                      simp only [hL]
                      have HL := Lib.hid hL
                      have HR13 := Lib.hid hr13
                      have hll := send_len t (k : Int)
                      rw [hL] at hll
                      have HLL := Lib.hid (show L.1.log.length ≤ 1000000 by have := rightL_len HPP2.out.ok.log; omega)
                      clear hll
                      have HB13 := Lib.hid (below_step HBK.out hb13)
                      clear hr13 hb13 hL
                      unfold ltrV
                      go_wp2_with fail
                      have HQ13 := Lib.hid (blk_new w13 (Obj.cells #[.int .i64 L.1.kind, .int .i64 L.1.view, .int .i64 L.1.normal, .int .i64 L.1.len, .int .i64 L.1.stays, .slice A13 L.1.log.length c13, .int .i64 L.1.num, .string L.1.text] 33))
                      have HW13 := Lib.hid (below_alloc (Below.refl w13.heap.size w13) (Obj.cells #[.int .i64 L.1.kind, .int .i64 L.1.view, .int .i64 L.1.normal, .int .i64 L.1.len, .int .i64 L.1.stays, .slice A13 L.1.log.length c13, .int .i64 L.1.num, .string L.1.text] 33))
                      refine (pt_send (HPX2.out.below (below_step HB13.out HW13.out)) (k : Int)).mono ?_
                      rintro e w14 ⟨A14, c14, he, hr14, hb14⟩
                      have hms := made_send t (k : Int)
                      rw [HTM.out.1, HTM.out.2, HL.out] at hms
                      rw [hms] at he hr14
                      subst he
                      have HB14 := Lib.hid (below_step (below_step HB13.out HW13.out) hb14)
                      have HR14 := Lib.hid hr14
                      have HR13' := Lib.hid ((HR13.out.below HW13.out).below hb14)
                      have HQ14 := Lib.hid (blk_below HQ13.out hb14)
                      have l13 := blk_lt HQ14.out
                      obtain ⟨y0, y1, y2, y3, y4, y5, y6, y7⟩ := cells8 HQ14.out
                      have yf := blk_frozen HQ14.out 4
                      have HGE := Lib.hid (show W11.heap.size ≤ w13.heap.size from HB13.out.size)
                      clear hr14 hb14 hms HR13 HQ13 HW13
                      obtain ⟨g13, hg13⟩ : ∃ g13, w13.heap.size = g13 := ⟨_, rfl⟩
                      rw [hg13] at HGE HQ14 l13 y0 y1 y2 y3 y4 y5 y6 y7 yf ⊢
                      clear hg13
                      unfold ltrV
                      go_wp2_with fail
                      have HS1 := Lib.hid ((HR13'.out.set HQ14.out (by decide) 4 (.int .i64 0)).below (below_alloc (Below.refl _ _) (Obj.cells #[.int .i64 L.1.kind, .int .i64 L.1.view, .int .i64 L.1.normal, .int .i64 L.1.len, .int .i64 0, .slice A14 L.1.log.length c14, .int .i64 L.1.num, .string L.1.text] 33)))
                      have HS2 := Lib.hid ((HR14.out.set HQ14.out (by decide) 4 (.int .i64 0)).below (below_alloc (Below.refl _ _) (Obj.cells #[.int .i64 L.1.kind, .int .i64 L.1.view, .int .i64 L.1.normal, .int .i64 L.1.len, .int .i64 0, .slice A14 L.1.log.length c14, .int .i64 L.1.num, .string L.1.text] 33)))
                      have HB15 := Lib.hid (below_alloc (below_put HB14.out ⟨g13, 4, none⟩ HGE.out (.int .i64 0)) (Obj.cells #[.int .i64 L.1.kind, .int .i64 L.1.view, .int .i64 L.1.normal, .int .i64 L.1.len, .int .i64 0, .slice A14 L.1.log.length c14, .int .i64 L.1.num, .string L.1.text] 33))
                      have HSL := Lib.hid (sameL_calls { L.1 with stays := 0 } { L.1 with stays := 0 } A13 c13 A14 c14 HS1.out.C1.2 HS2.out.C1.2 HLL.out HLL.out)
                      rw [sameLt_self] at HSL
                      unfold ltrV at HSL
                      dsimp only at HSL
                      refine HSL.out.mono ?_
                      rintro e w16 ⟨rfl, hb16⟩
                      have HB16 := Lib.hid (below_step HB15.out hb16)
                      clear hb16
                      go_wp2_with fail
                      go_roundg (many.toNat - (k + 1))
                      case measure => omega
                      case rel => exact ⟨k + 1, by omega, by omega, by go_num, HB16.out⟩
                    · have hkd : decide ((k : Int) < many) = false := decide_eq_false hkm
                      go_wp2_with fail
                      go_roundg (ops.length - (i + 1))
                      case measure => omega
                      case rel => exact ⟨i + 1, t, by omega, by omega, by go_num, HPP2.out.below HBK.out, HTM.out, below_step HBW.out HBK.out⟩
          · have hltz : decide ((i : Int) < (ops.length : Int)) = false := decide_eq_false (by omega)
            go_wp2_with fail
            go_ret
            exact ⟨rfl, HB.out⟩
end Go.Proofs.Ytndnjmgmdkkifaa.Vw1
