/- Views in memory: the walk of Send. -/
import Derived.Test.YtndnjmgmdkkifaaVw12
namespace Go.Proofs.Ytndnjmgmdkkifaa.Vw1
open Go Go.RowKit Go.Maps Go.Proofs Go.Proofs.Ytndnjmgmdkkifaa.New Go.Proofs.Ytndnjmgmdkkifaa.Vw Go.Proofs.Ytndnjmgmdkkifaa.Vw0 Go.Proofs.YtndnjmgmdkkifaaW.PrintWords Go.Proofs.YtndnjmgmdkkifaaW.PrintLast Go.Proofs.YtndnjmgmdkkifaaW.PrintMore
set_option linter.unusedVariables false
set_option linter.unusedSimpArgs false

theorem put8 {w : World} {g : Nat} {a0 a1 a2 a3 a4 a5 a6 a7 : Value} (h : w.heap[g]? = some (.cells #[a0, a1, a2, a3, a4, a5, a6, a7] 33 (0, 0))) (v0 v1 v2 v3 v4 v5 v6 v7 : Value) :
    ∃ w3, ((((((((w.setCell ⟨g, 0, none⟩ v0).setCell ⟨g, 1, none⟩ v1).setCell ⟨g, 2, none⟩ v2).setCell ⟨g, 3, none⟩ v3).setCell ⟨g, 4, none⟩ v4).setCell ⟨g, 5, none⟩ v5).setCell ⟨g, 6, none⟩ v6).setCell ⟨g, 7, none⟩ v7) = w3 ∧ w3.heap[g]? = some (.cells #[v0, v1, v2, v3, v4, v5, v6, v7] 33 (0, 0)) ∧ (∀ B, B ≤ g → Below B w w3) ∧ ∀ v l, Rd w v l → Rd w3 v l := by
  have b0 := blk_put (cs' := #[v0, a1, a2, a3, a4, a5, a6, a7]) h 0 v0 rfl
  have b1 := blk_put (cs' := #[v0, v1, a2, a3, a4, a5, a6, a7]) b0 1 v1 rfl
  have b2 := blk_put (cs' := #[v0, v1, v2, a3, a4, a5, a6, a7]) b1 2 v2 rfl
  have b3 := blk_put (cs' := #[v0, v1, v2, v3, a4, a5, a6, a7]) b2 3 v3 rfl
  have b4 := blk_put (cs' := #[v0, v1, v2, v3, v4, a5, a6, a7]) b3 4 v4 rfl
  have b5 := blk_put (cs' := #[v0, v1, v2, v3, v4, v5, a6, a7]) b4 5 v5 rfl
  have b6 := blk_put (cs' := #[v0, v1, v2, v3, v4, v5, v6, a7]) b5 6 v6 rfl
  have b7 := blk_put (cs' := #[v0, v1, v2, v3, v4, v5, v6, v7]) b6 7 v7 rfl
  refine ⟨_, rfl, b7, fun B hB => ?_, fun v l hr => ?_⟩
  · have c0 := below_put (Below.refl B w) ⟨g, 0, none⟩ hB v0
    have c1 := below_put c0 ⟨g, 1, none⟩ hB v1
    have c2 := below_put c1 ⟨g, 2, none⟩ hB v2
    have c3 := below_put c2 ⟨g, 3, none⟩ hB v3
    have c4 := below_put c3 ⟨g, 4, none⟩ hB v4
    have c5 := below_put c4 ⟨g, 5, none⟩ hB v5
    have c6 := below_put c5 ⟨g, 6, none⟩ hB v6
    have c7 := below_put c6 ⟨g, 7, none⟩ hB v7
    exact c7
  · have c0 := hr.set h (by decide) 0 v0
    have c1 := c0.set b0 (by decide) 1 v1
    have c2 := c1.set b1 (by decide) 2 v2
    have c3 := c2.set b2 (by decide) 3 v3
    have c4 := c3.set b3 (by decide) 4 v4
    have c5 := c4.set b4 (by decide) 5 v5
    have c6 := c5.set b5 (by decide) 6 v6
    have c7 := c6.set b6 (by decide) 7 v7
    exact c7
theorem rd_nil (W : World) : Rd W (.slice none 0 0) [] := ⟨none, 0, rfl, Nat.le_refl _, ⟨by simp, by simp, fun h => absurd h (by simp)⟩, fun _ h => by cases h⟩
set_option maxHeartbeats 4000000 in
set_option maxRecDepth 100000 in
theorem Send_calls {W : World} {p am cm : Nat} {s : V} (h : VRep W p am cm s) (o : OkV s) (n : Int) :
    Calls Try.prog 25 #[.pointer (some ⟨p, 0, none⟩), .int .i64 n] W fun e w' => ∃ A c, e = .returned (.tuple #[ltrV (s.send n).1 A c, .bool (s.send n).2]) ∧ Rd w' (.slice A (s.send n).1.log.length c) (s.send n).1.log ∧ Below W.heap.size W w' := by
  have HH := Lib.hid h
  have HO := Lib.hid o
  have hll := rightL_len o.log
  have HSV := Lib.hid (fun W' (hw : Below W.heap.size W W') => Saved_calls (h.below hw) o)
  obtain ⟨A0, c0, hb, _⟩ := h.blk
  have HOT := Lib.hid (fun W' (hw : Below W.heap.size W W') => other_calls (blk_below hb hw) n)
  have HFI := Lib.hid (fun W' (hw : Below W.heap.size W W') => first_calls (blk_below hb hw) o)
  have HFF := Lib.hid (fun W' (hw : Below W.heap.size W W') => First_calls (blk_below hb hw) o)
  have HNI := Lib.hid (fun W' (hw : Below W.heap.size W W') => normal_calls (blk_below hb hw))
  have HBK := Lib.hid hb
  clear h o hb
  obtain ⟨ob, hob⟩ : ∃ ob, s.otherB n = ob := ⟨_, rfl⟩
  rw [hob] at HOT
  cases ob with
  | false =>
    have HE := Lib.hid (show s.send n = (noL, false) by unfold V.send; rw [if_pos hob])
    clear hob
    go_enter Try.func25, Try.ntmps25
    go_wp2_with (go_at_call 21; refine (HSV.out _ ?_).mono ?_; exact (below_alloc (Below.refl _ _) _); rintro e w1 ⟨A1, c1, rfl, hr1, hb1⟩; have HR1 := Lib.hid hr1; have hb2 := below_step (below_alloc (Below.refl _ _) _) hb1; have hg1 := blk_below (blk_new W _) hb1; have hlt := blk_lt hg1; obtain ⟨x0, x1, x2, x3, x4, x5, x6, x7⟩ := cells8 hg1; have f0 := blk_frozen hg1 0; have f1 := blk_frozen hg1 1; have f2 := blk_frozen hg1 2; have f3 := blk_frozen hg1 3; have f4 := blk_frozen hg1 4; have f5 := blk_frozen hg1 5; have f6 := blk_frozen hg1 6; have f7 := blk_frozen hg1 7; have HB1 := Lib.hid hb2; have HG1 := Lib.hid hg1; clear hr1 hb1 hb2 hg1)
    go_wp2_with (go_at_call 44; refine (HOT.out _ ?_).mono ?_; exact below_alloc HB1.out _; rintro e w2 ⟨rfl, rfl⟩)
    obtain ⟨w3, e3, hb3, hB3, hR3⟩ := put8 HG1.out (.int .i64 0) (.int .i64 0) (.int .i64 0) (.int .i64 0) (.int .i64 0) (.slice none 0 0) (.int .i64 0) (.string ⟨#[]⟩)
    clear x0 x1 x2 x3 x4 x5 x6 x7 f0 f1 f2 f3 f4 f5 f6 f7
    rw [e3]
    obtain ⟨k0, k1, k2, k3, k4, k5, k6, k7⟩ := cells8 (blk_alloc hb3 (Obj.cells #[Value.int IntKind.i64 s.view, Value.int IntKind.i64 s.normal, Value.slice A1 (List.length s.log) c1] 24))
    refine bodyPost_ret (v := .tuple #[ltrV noL none 0, .bool false]) ?_ rfl ⟨none, 0, by rw [HE.out], ?_, ?_⟩
    · simp [results, show (Try.f25).results = #[ResultVar.cell 4 33, ResultVar.tmp 5] from rfl, go_sem, k0, k1, k2, k3, k4, k5, k6, k7, ltrV, noL]
    · rw [HE.out]; exact rd_nil _
    · exact below_alloc (HB1.out.trans (hB3 _ (Nat.le_refl _))) _
  | true =>
    obtain ⟨fb, hfb⟩ : ∃ fb, s.firstB = fb := ⟨_, rfl⟩
    rw [hfb] at HFF
    obtain ⟨h0, h1, h2, h3, h4, h5, h6, h7⟩ := cells8 HBK.out
    clear h0 h1 h2 h3 h4 h6 h7
    cases fb with
    | true =>
      have HE := Lib.hid (show s.send n = (⟨1, s.view, 0, s.log, 0, s.stays, 0, ⟨#[]⟩⟩, true) by unfold V.send; rw [if_neg (by rw [hob]; decide), if_pos hfb])
      clear hob hfb
      go_enter Try.func25, Try.ntmps25
      go_wp2_with (first | (go_at_call 21; refine (HSV.out _ ?_).mono ?_; exact (below_alloc (Below.refl _ _) _); rintro e w1 ⟨A1, c1, rfl, hr1, hb1⟩; have HR1 := Lib.hid hr1; have hb2 := below_step (below_alloc (Below.refl _ _) _) hb1; have hg1 := blk_below (blk_new W _) hb1; have hlt := blk_lt hg1; obtain ⟨x0, x1, x2, x3, x4, x5, x6, x7⟩ := cells8 hg1; have f0 := blk_frozen hg1 0; have f1 := blk_frozen hg1 1; have f2 := blk_frozen hg1 2; have f3 := blk_frozen hg1 3; have f4 := blk_frozen hg1 4; have f5 := blk_frozen hg1 5; have f6 := blk_frozen hg1 6; have f7 := blk_frozen hg1 7; have y5 := fun (o : Obj) => pw_cell_below (below_alloc hb2 o) h5; have HB1 := Lib.hid hb2; have HG1 := Lib.hid hg1; clear hr1 hb1 hb2 hg1) | (go_at_call 44; refine (HOT.out _ ?_).mono ?_; exact below_alloc HB1.out _; rintro e w2 ⟨rfl, rfl⟩) | (go_at_call 23; refine (HFF.out _ ?_).mono ?_; exact below_alloc HB1.out _; rintro e w3 ⟨rfl, ⟨m3, rfl⟩⟩))
      go_region
      go_wp2_with fail
      (try simp only [Exit.inBlock, Exit.then])
      obtain ⟨w3, e3, hb3, hB3, hR3⟩ := put8 (blk_drewN (blk_alloc HG1.out (Obj.cells #[Value.int IntKind.i64 s.view, Value.int IntKind.i64 s.normal, Value.slice A1 (List.length s.log) c1] 24)) (m3 + 1)) (.int .i64 1) (.int .i64 s.view) (.int .i64 0) (.int .i64 0) (.int .i64 s.stays) (.slice A1 s.log.length c1) (.int .i64 0) (.string ⟨#[]⟩)
      clear x0 x1 x2 x3 x4 x5 x6 x7 f0 f1 f2 f3 f4 f5 f6 f7 y5
      rw [e3]
      obtain ⟨k0, k1, k2, k3, k4, k5, k6, k7⟩ := cells8 hb3
      refine bodyPost_ret (v := .tuple #[ltrV ⟨1, s.view, 0, s.log, 0, s.stays, 0, ⟨#[]⟩⟩ A1 c1, .bool true]) ?_ rfl ⟨A1, c1, by rw [HE.out], ?_, ?_⟩
      · simp [results, show (Try.f25).results = #[ResultVar.cell 4 33, ResultVar.tmp 5] from rfl, go_sem, k0, k1, k2, k3, k4, k5, k6, k7, ltrV, noL]
      · rw [HE.out]; exact hR3 _ _ (HR1.out.below (pw_below_drewN (below_alloc (Below.refl _ _) _) _))
      · exact (pw_below_drewN (below_alloc HB1.out _) _).trans (hB3 _ (Nat.le_refl _))
    | false =>
      obtain ⟨fi, hfi⟩ : ∃ fi, s.first = fi := ⟨_, rfl⟩
      rw [hfi] at HFI
      cases hnf : n != fi with
      | true =>
        have hnf2 : (n == fi) = false := by simpa using hnf
        have HE := Lib.hid (show s.send n = (noL, false) by unfold V.send; rw [if_neg (by rw [hob]; decide), if_neg (by rw [hfb]; decide), hfi, if_pos hnf2])
        clear hob hfb hfi hnf2
        go_enter Try.func25, Try.ntmps25
        go_wp2_with (first | (go_at_call 21; refine (HSV.out _ ?_).mono ?_; exact (below_alloc (Below.refl _ _) _); rintro e w1 ⟨A1, c1, rfl, hr1, hb1⟩; have HR1 := Lib.hid hr1; have hb2 := below_step (below_alloc (Below.refl _ _) _) hb1; have hg1 := blk_below (blk_new W _) hb1; have hlt := blk_lt hg1; obtain ⟨x0, x1, x2, x3, x4, x5, x6, x7⟩ := cells8 hg1; have f0 := blk_frozen hg1 0; have f1 := blk_frozen hg1 1; have f2 := blk_frozen hg1 2; have f3 := blk_frozen hg1 3; have f4 := blk_frozen hg1 4; have f5 := blk_frozen hg1 5; have f6 := blk_frozen hg1 6; have f7 := blk_frozen hg1 7; have y5 := fun (o : Obj) => pw_cell_below (below_alloc hb2 o) h5; have HB1 := Lib.hid hb2; have HG1 := Lib.hid hg1; clear hr1 hb1 hb2 hg1) | (go_at_call 44; refine (HOT.out _ ?_).mono ?_; exact below_alloc HB1.out _; rintro e w2 ⟨rfl, rfl⟩) | (go_at_call 23; refine (HFF.out _ ?_).mono ?_; exact below_alloc HB1.out _; rintro e w3 ⟨rfl, ⟨m3, rfl⟩⟩) | (go_at_call 46; refine (HFI.out _ ?_).mono ?_; exact pw_below_drewN (below_alloc HB1.out _) _; rintro e w4 ⟨rfl, ⟨m4, rfl⟩⟩))
        (try simp only [Exit.inBlock, Exit.then])
        obtain ⟨w3, e3, hb3, hB3, hR3⟩ := put8 (blk_drewN (blk_alloc HG1.out (Obj.cells #[Value.int IntKind.i64 s.view, Value.int IntKind.i64 s.normal, Value.slice A1 (List.length s.log) c1] 24)) (m3 + m4)) (.int .i64 0) (.int .i64 0) (.int .i64 0) (.int .i64 0) (.int .i64 0) (.slice none 0 0) (.int .i64 0) (.string ⟨#[]⟩)
        clear x0 x1 x2 x3 x4 x5 x6 x7 f0 f1 f2 f3 f4 f5 f6 f7 y5
        rw [e3]
        obtain ⟨k0, k1, k2, k3, k4, k5, k6, k7⟩ := cells8 hb3
        refine bodyPost_ret (v := .tuple #[ltrV noL none 0, .bool false]) ?_ rfl ⟨none, 0, by rw [HE.out], ?_, ?_⟩
        · simp [results, show (Try.f25).results = #[ResultVar.cell 4 33, ResultVar.tmp 5] from rfl, go_sem, k0, k1, k2, k3, k4, k5, k6, k7, ltrV, noL]
        · rw [HE.out]; exact rd_nil _
        · exact (pw_below_drewN (below_alloc HB1.out _) _).trans (hB3 _ (Nat.le_refl _))
      | false =>
        have hnf2 : (n == fi) = true := by simpa using hnf
        obtain ⟨nb, hnb⟩ : ∃ nb, s.normalB = nb := ⟨_, rfl⟩
        rw [hnb] at HNI
        cases nb with
        | true =>
          have HE := Lib.hid (show s.send n = (⟨2, s.view, 0, [], s.log.length, 0, 0, ⟨#[]⟩⟩, true) by unfold V.send; rw [if_neg (by rw [hob]; decide), if_neg (by rw [hfb]; decide), hfi, if_neg (by rw [hnf2]; decide), if_pos hnb])
          clear hob hfb hfi hnf2 hnb
          go_enter Try.func25, Try.ntmps25
          go_wp2_with (first | (go_at_call 21; refine (HSV.out _ ?_).mono ?_; exact (below_alloc (Below.refl _ _) _); rintro e w1 ⟨A1, c1, rfl, hr1, hb1⟩; have HR1 := Lib.hid hr1; have hb2 := below_step (below_alloc (Below.refl _ _) _) hb1; have hg1 := blk_below (blk_new W _) hb1; have hlt := blk_lt hg1; obtain ⟨x0, x1, x2, x3, x4, x5, x6, x7⟩ := cells8 hg1; have f0 := blk_frozen hg1 0; have f1 := blk_frozen hg1 1; have f2 := blk_frozen hg1 2; have f3 := blk_frozen hg1 3; have f4 := blk_frozen hg1 4; have f5 := blk_frozen hg1 5; have f6 := blk_frozen hg1 6; have f7 := blk_frozen hg1 7; have y5 := fun (o : Obj) => pw_cell_below (below_alloc hb2 o) h5; have HB1 := Lib.hid hb2; have HG1 := Lib.hid hg1; clear hr1 hb1 hb2 hg1) | (go_at_call 44; refine (HOT.out _ ?_).mono ?_; exact below_alloc HB1.out _; rintro e w2 ⟨rfl, rfl⟩) | (go_at_call 23; refine (HFF.out _ ?_).mono ?_; exact below_alloc HB1.out _; rintro e w3 ⟨rfl, ⟨m3, rfl⟩⟩) | (go_at_call 46; refine (HFI.out _ ?_).mono ?_; exact pw_below_drewN (below_alloc HB1.out _) _; rintro e w4 ⟨rfl, ⟨m4, rfl⟩⟩) | (go_at_call 47; refine (HNI.out _ ?_).mono ?_; exact pw_below_drewN (below_alloc HB1.out _) _; rintro e w5 ⟨rfl, ⟨m5, rfl⟩⟩))
          (try simp only [Exit.inBlock, Exit.then])
          obtain ⟨w3, e3, hb3, hB3, hR3⟩ := put8 (blk_drewN (blk_alloc HG1.out (Obj.cells #[Value.int IntKind.i64 s.view, Value.int IntKind.i64 s.normal, Value.slice A1 (List.length s.log) c1] 24)) (m3 + m4 + m5)) (.int .i64 2) (.int .i64 s.view) (.int .i64 0) (.int .i64 s.log.length) (.int .i64 0) (.slice none 0 0) (.int .i64 0) (.string ⟨#[]⟩)
          clear x0 x1 x2 x3 x4 x5 x6 x7 f0 f1 f2 f3 f4 f5 f6 f7 y5
          rw [e3]
          obtain ⟨k0, k1, k2, k3, k4, k5, k6, k7⟩ := cells8 hb3
          refine bodyPost_ret (v := .tuple #[ltrV ⟨2, s.view, 0, [], s.log.length, 0, 0, ⟨#[]⟩⟩ none 0, .bool true]) ?_ rfl ⟨none, 0, by rw [HE.out], ?_, ?_⟩
          · simp [results, show (Try.f25).results = #[ResultVar.cell 4 33, ResultVar.tmp 5] from rfl, go_sem, k0, k1, k2, k3, k4, k5, k6, k7, ltrV, noL]
          · rw [HE.out]; exact rd_nil _
          · exact (pw_below_drewN (below_alloc HB1.out _) _).trans (hB3 _ (Nat.le_refl _))
        | false =>
          have HE := Lib.hid (show s.send n = (⟨3, s.view, s.normal, s.log, 0, 0, 0, ⟨#[]⟩⟩, true) by unfold V.send; rw [if_neg (by rw [hob]; decide), if_neg (by rw [hfb]; decide), hfi, if_neg (by rw [hnf2]; decide), if_neg (by rw [hnb]; decide)])
          clear hob hfb hfi hnf2 hnb
          go_enter Try.func25, Try.ntmps25
          go_wp2_with (first | (go_at_call 21; refine (HSV.out _ ?_).mono ?_; exact (below_alloc (Below.refl _ _) _); rintro e w1 ⟨A1, c1, rfl, hr1, hb1⟩; have HR1 := Lib.hid hr1; have hb2 := below_step (below_alloc (Below.refl _ _) _) hb1; have hg1 := blk_below (blk_new W _) hb1; have hlt := blk_lt hg1; obtain ⟨x0, x1, x2, x3, x4, x5, x6, x7⟩ := cells8 hg1; have f0 := blk_frozen hg1 0; have f1 := blk_frozen hg1 1; have f2 := blk_frozen hg1 2; have f3 := blk_frozen hg1 3; have f4 := blk_frozen hg1 4; have f5 := blk_frozen hg1 5; have f6 := blk_frozen hg1 6; have f7 := blk_frozen hg1 7; have y5 := fun (o : Obj) => pw_cell_below (below_alloc hb2 o) h5; have HB1 := Lib.hid hb2; have HG1 := Lib.hid hg1; clear hr1 hb1 hb2 hg1) | (go_at_call 44; refine (HOT.out _ ?_).mono ?_; exact below_alloc HB1.out _; rintro e w2 ⟨rfl, rfl⟩) | (go_at_call 23; refine (HFF.out _ ?_).mono ?_; exact below_alloc HB1.out _; rintro e w3 ⟨rfl, ⟨m3, rfl⟩⟩) | (go_at_call 46; refine (HFI.out _ ?_).mono ?_; exact pw_below_drewN (below_alloc HB1.out _) _; rintro e w4 ⟨rfl, ⟨m4, rfl⟩⟩) | (go_at_call 47; refine (HNI.out _ ?_).mono ?_; exact pw_below_drewN (below_alloc HB1.out _) _; rintro e w5 ⟨rfl, ⟨m5, rfl⟩⟩))
          (try simp only [Exit.inBlock, Exit.then])
          obtain ⟨w3, e3, hb3, hB3, hR3⟩ := put8 (blk_drewN (blk_alloc HG1.out (Obj.cells #[Value.int IntKind.i64 s.view, Value.int IntKind.i64 s.normal, Value.slice A1 (List.length s.log) c1] 24)) (m3 + m4 + m5)) (.int .i64 3) (.int .i64 s.view) (.int .i64 s.normal) (.int .i64 0) (.int .i64 0) (.slice A1 s.log.length c1) (.int .i64 0) (.string ⟨#[]⟩)
          clear x0 x1 x2 x3 x4 x5 x6 x7 f0 f1 f2 f3 f4 f5 f6 f7 y5
          rw [e3]
          obtain ⟨k0, k1, k2, k3, k4, k5, k6, k7⟩ := cells8 hb3
          refine bodyPost_ret (v := .tuple #[ltrV ⟨3, s.view, s.normal, s.log, 0, 0, 0, ⟨#[]⟩⟩ A1 c1, .bool true]) ?_ rfl ⟨A1, c1, by rw [HE.out], ?_, ?_⟩
          · simp [results, show (Try.f25).results = #[ResultVar.cell 4 33, ResultVar.tmp 5] from rfl, go_sem, k0, k1, k2, k3, k4, k5, k6, k7, ltrV, noL]
          · rw [HE.out]; exact hR3 _ _ (HR1.out.below (pw_below_drewN (below_alloc (Below.refl _ _) _) _))
          · exact (pw_below_drewN (below_alloc HB1.out _) _).trans (hB3 _ (Nat.le_refl _))
end Go.Proofs.Ytndnjmgmdkkifaa.Vw1
