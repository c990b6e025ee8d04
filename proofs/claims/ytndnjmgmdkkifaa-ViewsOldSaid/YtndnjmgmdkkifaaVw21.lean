/- The walk of ViewsOld. -/
import Derived.Test.YtndnjmgmdkkifaaVw20
import Derived.Outline
namespace Go.Proofs.Ytndnjmgmdkkifaa.Vw1
open Go Go.RowKit Go.Maps Go.Proofs Go.Proofs.Ytndnjmgmdkkifaa.New Go.Proofs.Ytndnjmgmdkkifaa.Vw Go.Proofs.Ytndnjmgmdkkifaa.Vw0 Go.Proofs.YtndnjmgmdkkifaaW.PrintWords Go.Proofs.YtndnjmgmdkkifaaW.PrintLast Go.Proofs.YtndnjmgmdkkifaaW.PrintMore
set_option linter.unusedVariables false
set_option linter.unusedSimpArgs false

set_option maxHeartbeats 4000000 in
set_option maxRecDepth 100000 in
theorem old_walk {W : World} (me many vw nm : Int) (A0 : Option Addr) (c0 : Nat) (sl : Log) (fr : Int) (l : Ltr) (A1 : Option Addr) (c1 : Nat) (h0 : Kd.C Kd.string W A0 sl.length sl) (h1 : Kd.C Kd.string W A1 l.log.length l.log) (hl0 : sl.length ≤ 100000000000000) (hl1 : l.log.length ≤ 100000000000000) :
    Calls Try.prog 8 #[.int .i64 me, .int .i64 many, .agg #[.int .i64 vw, .int .i64 nm, .slice A0 sl.length c0], .int .i64 fr, ltrV l A1 c1] W fun e w' => e = .returned (.bool true) ∧ Below W.heap.size W w' := by
  have HHD := Lib.hid (fun w => head_calls w)
  have HG0 := Lib.hid (fun w (hw : Below W.heap.size W w) => great_calls A0 c0 sl (Kd.C_below h0 hw) hl0)
  have HG1 := Lib.hid (fun w (hw : Below W.heap.size W w) => great_calls A1 c1 l.log (Kd.C_below h1 hw) hl1)
  have H0 := Lib.hid h0
  have H1 := Lib.hid h1
  clear h0 h1
  obtain ⟨kd, lv, ln, ll, le, lst, lm, lt⟩ := l
  unfold ltrV
  dsimp only at *
  go_enter Try.func8, Try.ntmps8
  go_wp2_with fail
  refine (HHD.out _).mono ?_
  rintro e w1 ⟨rfl, hb1⟩
  have HQ7 := Lib.hid (blk_below (blk_alloc (blk_new W (Obj.cells #[.int .i64 vw, .int .i64 nm, .slice A0 sl.length c0] 24)) (Obj.cells #[.int .i64 kd, .int .i64 lv, .int .i64 ln, .int .i64 le, .int .i64 lst, .slice A1 ll.length c1, .int .i64 lm, .string lt] 33)) hb1)
  have hq9 := blk_below (blk_new (W.alloc (Obj.cells #[.int .i64 vw, .int .i64 nm, .slice A0 sl.length c0] 24)) (Obj.cells #[.int .i64 kd, .int .i64 lv, .int .i64 ln, .int .i64 le, .int .i64 lst, .slice A1 ll.length c1, .int .i64 lm, .string lt] 33)) hb1
  rw [World.size_alloc] at hq9
  have HQ9 := Lib.hid hq9
  have HB1 := Lib.hid (below_step (below_alloc (below_alloc (Below.refl _ _) _) _) hb1)
  obtain ⟨a0, a1, a2⟩ := cells3 HQ7.out
  obtain ⟨b0, b1, b2, b3, b4, b5, b6, b7⟩ := cells8 HQ9.out
  clear hb1 HHD hq9
  cases g0 : greatB sl with
  | true =>
    rw [g0] at HG0
    go_wp2_with (go_at_call 11; refine (HG0.out _ HB1.out).mono ?_; rintro e w2 ⟨rfl, rfl⟩)
    go_ret
    exact ⟨rfl, HB1.out⟩
  | false =>
    rw [g0] at HG0
    cases g1 : greatB ll with
    | true =>
      rw [g1] at HG1
      go_wp2_with fail
      refine (HG0.out _ HB1.out).mono ?_
      rintro e w2 ⟨rfl, rfl⟩
      go_wp2_with fail
      refine (HG1.out _ HB1.out).mono ?_
      rintro e w2 ⟨rfl, rfl⟩
      go_wp2_with fail
      go_ret
      exact ⟨rfl, HB1.out⟩
    | false =>
      rw [g1] at HG1
      have HF0 := Lib.hid (great_no g0)
      have HF1 := Lib.hid (great_no g1)
      clear g0 g1
      go_wp2_with fail
      refine (HG0.out _ HB1.out).mono ?_
      rintro e w2 ⟨rfl, rfl⟩
      go_wp2_with fail
      refine (HG1.out _ HB1.out).mono ?_
      rintro e w2 ⟨rfl, rfl⟩
      clear HG0 HG1
      go_wp2_with fail
      cases hn : newV me many vw nm sl with
      | none =>
        refine (new_nil hn A0 c0 (Kd.C_below H0.out HB1.out) (by have := HF0.out.1; omega) (fun s hs => by have := HF0.out.2 s hs; omega)).mono ?_
        rintro e w3 ⟨rfl, hb3⟩
        have HB3 := Lib.hid (below_step HB1.out hb3)
        clear hb3 hn
        go_wp2_with fail
        go_ret
        exact ⟨rfl, HB3.out⟩
      | some s =>
        refine (pt_new hn A0 c0 (Kd.C_below H0.out HB1.out)).mono ?_
        rintro e w3 ⟨p, rfl, hp, hb3⟩
        obtain ⟨_, hs⟩ := newV_some hn
        have HS := Lib.hid hs
        have HB3 := Lib.hid (below_step HB1.out hb3)
        have HP3 := Lib.hid hp
        have HZ3 := Lib.hid hb3
        have HK9 := Lib.hid (blk_below HQ9.out hb3)
        obtain ⟨d0, d1, d2, d3, d4, d5, d6, d7⟩ := cells8 HK9.out
        clear hp hb3 hn hs
        go_wp2_with fail
        refine (pt_take HP3.out fr ⟨kd, lv, ln, ll, le, lst, lm, lt⟩ A1 c1 (Far.of_arg H1.out HB1.out.size HB3.out) (by have := HF1.out.1; show ll.length ≤ _; omega) (fun z hz => by have := HF1.out.2 z hz; omega)).mono ?_
        rintro e w4 ⟨rfl, hp, hs4⟩
        have HT := Lib.hid (fun h => take_not (s := s) (fr := fr) (l := ⟨kd, lv, ln, ll, le, lst, lm, lt⟩) h)
        have HT0 := Lib.hid (fun h => take_false (s := s) (fr := fr) (l := ⟨kd, lv, ln, ll, le, lst, lm, lt⟩) h)
        have HT1 := Lib.hid (fun h => take_true (s := s) (fr := fr) (l := ⟨kd, lv, ln, ll, le, lst, lm, lt⟩) h)
        have HK94 := Lib.hid (hs4.row HP3.out (by decide) HK9.out)
        have HK74 := Lib.hid (hs4.row HP3.out (by decide) (blk_below HQ7.out HZ3.out))
        have HB4 := Lib.hid (HB3.out.trans (hs4.below.mono HB1.out.size))
        clear a0 a1 a2 b0 b1 b2 b3 b4 b5 b6 b7 d0 d1 d2 d3 d4 d5 d6 d7 hs4
        obtain ⟨T, hT⟩ : ∃ T, s.take fr ⟨kd, lv, ln, ll, le, lst, lm, lt⟩ = T := ⟨_, rfl⟩
        obtain ⟨t, tb⟩ := T
        rw [hT] at hp ⊢
        rw [hT] at HT HT0 HT1
        clear hT
        dsimp only at *
        have HP4 := Lib.hid hp
        clear hp
        go_wp2_with fail
        refine (pt_saved HP4.out).mono ?_
        rintro e w5 ⟨A5, c5, rfl, hr5, hb5⟩
        have HR5 := Lib.hid hr5.C1.2
        have HP5 := Lib.hid (HP4.out.below hb5)
        have HB5 := Lib.hid (below_step HB4.out hb5)
        have HK95 := Lib.hid (blk_below HK94.out hb5)
        have HK75 := Lib.hid (blk_below HK74.out hb5)
        have l7 := blk_lt HK75.out
        have l9 := blk_lt HK95.out
        have HW5 := Lib.hid (below_alloc (Below.refl w5.heap.size w5) (Obj.cells #[.int .i64 t.view, .int .i64 t.normal, .slice A5 t.log.length c5] 24))
        obtain ⟨x0, x1, x2⟩ := cells3 HK75.out
        obtain ⟨y0, y1, y2, y3, y4, y5, y6, y7⟩ := cells8 HK95.out
        have HH0 := Lib.hid (Kd.C_below H0.out HB5.out)
        clear hr5 hb5 HP3 HP4 HB4 HK9 HK94 HK74 HQ7 HQ9 HZ3
        by_cases K : lv < vw ∨ fr < 0 ∨ fr ≥ many ∨ fr = me
        · have hE := HT.out (by rw [HS.out]; exact K)
          cases hE
          have HSS := Lib.hid (fun w (hw : Below w5.heap.size w5 w) => sameSaved_calls (W := w) s.view s.normal A5 c5 s.log vw nm A0 c0 sl (Kd.C_below HR5.out hw) (Kd.C_below HH0.out hw) (by have := rightL_len HP5.out.ok.log; omega) (by have := HF0.out.1; omega))
          rw [show sameS s.view s.normal s.log vw nm sl = true by rw [HS.out]; exact sameS_self vw nm sl] at HSS
          have HST := Lib.hid (show s.stays = 0 by rw [HS.out]; rfl)
          have K2 : lv < vw ∨ (vw ≤ lv ∧ fr < 0) ∨ (vw ≤ lv ∧ 0 ≤ fr ∧ fr ≥ many) ∨ (vw ≤ lv ∧ 0 ≤ fr ∧ fr < many ∧ fr = me) := by omega
          clear K
          rcases K2 with k1 | ⟨k1, k2⟩ | ⟨k1, k2, k3⟩ | ⟨k1, k2, k3, rfl⟩
          all_goals
            go_wp2_with fail
            refine (HSS.out _ HW5.out).mono ?_
            rintro e w6 ⟨rfl, hb6⟩
            have HP6 := Lib.hid ((HP5.out.below HW5.out).below hb6)
            have HB6 := Lib.hid (below_step (below_alloc HB5.out _) hb6)
            clear hb6
            go_wp2_with fail
            refine (pt_stays HP6.out).mono ?_
            rintro e w7 ⟨rfl, rfl⟩
            rw [HST.out]
            go_wp2_with fail
            go_ret
            exact ⟨rfl, HB6.out⟩
        · have k1 : vw ≤ lv := by omega
          have k2 : 0 ≤ fr := by omega
          have k3 : fr < many := by omega
          have k4 : (fr == me) = false := beq_eq_false_iff_ne.2 (by omega)
          clear K
          cases tb with
          | false =>
            have hE := HT0.out rfl
            subst hE
            have HSS := Lib.hid (fun w (hw : Below w5.heap.size w5 w) => sameSaved_calls (W := w) t.view t.normal A5 c5 t.log vw nm A0 c0 sl (Kd.C_below HR5.out hw) (Kd.C_below HH0.out hw) (by have := rightL_len HP5.out.ok.log; omega) (by have := HF0.out.1; omega))
            rw [show sameS t.view t.normal t.log vw nm sl = true by rw [HS.out]; exact sameS_self vw nm sl] at HSS
            go_wp2_with fail
            refine (HSS.out _ HW5.out).mono ?_
            rintro e w6 ⟨rfl, hb6⟩
            have HB6 := Lib.hid (below_step (below_alloc HB5.out _) hb6)
            clear hb6
            go_wp2_with fail
            go_ret
            exact ⟨rfl, HB6.out⟩
          | true =>
            have hv := HT1.out rfl
            have hv2 : (t.view == lv) = true := by rw [hv]; simp
            clear hv
            go_wp2_with fail
            go_ret
            exact ⟨rfl, below_alloc HB5.out _⟩
end Go.Proofs.Ytndnjmgmdkkifaa.Vw1
