/- Views in memory: what always holds of a part lives on; the walks of Turn and Propose. -/
import Derived.Test.YtndnjmgmdkkifaaVw5
namespace Go.Proofs.Ytndnjmgmdkkifaa.Vw1
open Go Go.RowKit Go.Maps Go.Proofs Go.Proofs.Ytndnjmgmdkkifaa.New Go.Proofs.Ytndnjmgmdkkifaa.Vw Go.Proofs.Ytndnjmgmdkkifaa.Vw0 Go.Proofs.YtndnjmgmdkkifaaW.PrintWords Go.Proofs.YtndnjmgmdkkifaaW.PrintLast Go.Proofs.YtndnjmgmdkkifaaW.PrintMore
set_option linter.unusedVariables false
set_option linter.unusedSimpArgs false

theorem okv_fresh {s : V} (o : OkV s) (v : Int) (h : s.view ≤ v) (h2 : v ≤ 281474976710656) : OkV (s.fresh v) :=
  ⟨o.many, o.me, ⟨o.normal.1, by have := o.normal.2; show s.normal ≤ v; omega⟩, h2, o.log, o.stays, by show (List.replicate s.many.toNat (0 : Int)).length = _; rw [List.length_replicate]; rfl, fun n hn => by
    change n ∈ List.replicate s.many.toNat (0 : Int) at hn
    rw [List.mem_replicate] at hn; omega, by show (List.replicate s.many.toNat (none : Option (Int × Log))).length = _; rw [List.length_replicate]; rfl, fun c hc x hx => by
    change c ∈ List.replicate s.many.toNat (none : Option (Int × Log)) at hc
    rw [List.mem_replicate] at hc; rw [hc.2] at hx; cases hx⟩
theorem okv_reckonN : ∀ (k : Nat) (s : V), OkV s → OkV (reckonN k s)
  | 0, s, o => o
  | k + 1, s, o => by
    unfold reckonN
    split
    · next h =>
      split
      · refine okv_reckonN k _ (okv_up o ?_)
        simp only [Bool.and_eq_true, decide_eq_true_eq] at h
        have := rightL_len o.log
        omega
      · exact o
    · exact o
theorem okv_reckon {s : V} (o : OkV s) : OkV s.reckon := okv_reckonN _ s o
theorem okv_log {s : V} (o : OkV s) (l : Log) (h : rightL l = true) : OkV { s with log := l } := ⟨o.many, o.me, o.normal, o.view, h, o.stays, o.alen, o.ack, o.clen, o.chg⟩
theorem okv_adopt {s : V} (o : OkV s) (l : Log) (h : rightL l = true) : OkV { s with log := l, normal := s.view } :=
  ⟨o.many, o.me, ⟨by show 0 ≤ s.view; have := o.normal; omega, Int.le_refl _⟩, o.view, h, o.stays, o.alen, o.ack, o.clen, o.chg⟩
theorem best_right : ∀ (l : List (Option (Int × Log))) (b : Int × Log), rightL b.2 = true → (∀ c ∈ l, ∀ x, c = some x → rightL x.2 = true) → rightL (bestOf b l).2 = true
  | [], b, h, _ => h
  | none :: t, b, h, k => best_right t b h (fun c hc => k c (by simp [hc]))
  | some c :: t, b, h, k => by
    unfold bestOf
    refine best_right t _ ?_ (fun c hc => k c (by simp [hc]))
    split
    · exact k (some c) (by simp) c rfl
    · exact h
theorem okv_count {s : V} (o : OkV s) : OkV s.count := by
  unfold V.count
  split
  · exact okv_reckon (okv_adopt o _ (best_right _ _ o.log fun c hc x hx => (o.chg c hc x hx).2.2))
  · exact o
theorem okv_turn {s : V} (o : OkV s) : OkV s.turn.1 := by
  unfold V.turn
  split
  · exact o
  · next h => exact okv_count (okv_fresh o _ (by omega) (by have := o.view; omega))
theorem okv_propose {s : V} (o : OkV s) (e : ByteArray) : OkV (s.propose e).1 := by
  unfold V.propose
  split
  · next h => simp only [Bool.and_eq_true] at h; exact okv_reckon (okv_log o _ h.2)
  · exact o
/-- after a call that keeps the maps, more of the same -/
theorem Mv.of {w w' : World} {p am cm : Nat} {s : V} (h : VRep w' p am cm s) (f : Fr w w' p am cm) : Mv w w' p am cm s := ⟨am, cm, h, f, .inl rfl, .inl rfl⟩
set_option maxHeartbeats 4000000 in
set_option maxRecDepth 100000 in
theorem Turn_calls {W : World} {p am cm : Nat} {s : V} (h : VRep W p am cm s) (o : OkV s) :
    Calls Try.prog 16 #[.pointer (some ⟨p, 0, none⟩)] W fun e w' => e = .returned (.bool s.turn.2) ∧ Mv W w' p am cm s.turn.1 := by
  have HH := Lib.hid h
  have HO := Lib.hid o
  obtain ⟨A, c, hb, hrd⟩ := h.blk
  obtain ⟨h0, h1, h2, h3, h4, h5, h6, h7⟩ := cells8 hb
  have HT := Lib.hid (fun v => turn_calls h v)
  have hv0 : 0 ≤ s.view := by have := o.normal; omega
  have hv1 := o.view
  have HTT := Lib.hid (show s.turn = if s.view = 281474976710656 then (s, false) else ((s.fresh (s.view + 1)).count, true) from rfl)
  have HOF := Lib.hid (fun (k : s.view + 1 ≤ 281474976710656) => okv_fresh o (s.view + 1) (by omega) k)
  clear h o hb hrd h1 h2 h3 h4 h5 h6 h7
  obtain ⟨vw, hvw⟩ : ∃ vw, s.view = vw := ⟨_, rfl⟩
  rw [hvw] at h0 hv0 hv1 HTT HOF
  clear hvw
  by_cases hx : vw = 281474976710656
  · subst hx
    have HE := Lib.hid (HTT.out.trans (if_pos rfl))
    go_enter Try.func16, Try.ntmps16
    go_wp2_with fail
    go_ret
    exact ⟨by rw [HE.out]; rfl, by rw [HE.out]; exact Mv.of HH.out (Fr.refl _ _ _ _)⟩
  · have HE := Lib.hid (HTT.out.trans (if_neg hx))
    have HOK := Lib.hid (HOF.out (by omega))
    have hvb : (vw == 281474976710656) = false := beq_eq_false_iff_ne.2 hx
    go_enter Try.func16, Try.ntmps16
    go_wp2_with (first | (go_at_call 36; refine (HT.out _).mono ?_; rintro e w1 ⟨rfl, am1, cm1, hv, hf, ha, hc⟩; have HV := Lib.hid hv; have HF := Lib.hid hf; have HA := Lib.hid ha; have HC := Lib.hid hc; clear hv hf ha hc) | (go_at_call 42; refine (count_calls HV.out HOK.out).mono ?_; rintro e w2 ⟨rfl, hv, hf⟩; have HV2 := Lib.hid hv; have HF2 := Lib.hid hf; clear hv hf))
    go_ret
    exact ⟨by rw [HE.out]; rfl, by rw [HE.out]; exact ⟨am1, cm1, HV2.out, HF.out.trans HF2.out HA.out HC.out, HA.out, HC.out⟩⟩
theorem rightL_size {l : Log} (h : rightL l = true) : ∀ s ∈ l, s.size ≤ 4096 := by
  unfold rightL at h
  simp only [Bool.and_eq_true, List.all_eq_true, decide_eq_true_eq] at h
  exact h.1
set_option maxHeartbeats 4000000 in
set_option maxRecDepth 100000 in
theorem Propose_calls {W : World} {p am cm : Nat} {s : V} (h : VRep W p am cm s) (o : OkV s) (en : ByteArray) (he : en.size ≤ 140737488355328) :
    Calls Try.prog 14 #[.pointer (some ⟨p, 0, none⟩), .string en] W fun e w' => e = .returned (.bool (s.propose en).2) ∧ Mv W w' p am cm (s.propose en).1 := by
  have HH := Lib.hid h
  have HO := Lib.hid o
  have hll := rightL_len o.log
  have HSZ := Lib.hid (rightL_size o.log)
  obtain ⟨A, c, hb, hrd⟩ := h.blk
  obtain ⟨h0, h1, h2, h3, h4, h5, h6, h7⟩ := cells8 hb
  obtain ⟨_, _, eA, hcl0, hC0, _⟩ := hrd
  cases eA
  have HCL := Lib.hid (clone_calls A c s.log W hC0 (by omega))
  have HF := Lib.hid (fun W' (hw : Below W.heap.size W W') => First_calls (blk_below hb hw) o)
  have HB := Lib.hid hb
  have HPP := Lib.hid (show s.propose en = if (s.firstB && rightL (s.log ++ [en])) = true then (V.reckon { s with log := s.log ++ [en] }, true) else (s, false) from rfl)
  clear h o hb hC0 h0 h1 h3 h4 h5 h6 h7
  obtain ⟨L2, hL2⟩ : ∃ L2, s.log ++ [en] = L2 := ⟨_, rfl⟩
  rw [hL2] at HPP
  have hl2 : L2.length ≤ 97 := by rw [← hL2, List.length_append, List.length_singleton]; omega
  have HL2 := Lib.hid hL2
  clear hL2
  obtain ⟨fb, hfb⟩ : ∃ fb, s.firstB = fb := ⟨_, rfl⟩
  rw [hfb] at HF HPP
  clear hfb
  have HRLF := Lib.hid (fun w3 A1 c1 (hC1 : Kd.C Kd.string w3 A1 L2.length L2) W' (hw : Below w3.heap.size w3 W') => rightLog_calls A1 c1 L2 W' (Kd.C_below hC1 hw) (by omega) (fun z hz => by
    rw [← HL2.out, List.mem_append, List.mem_singleton] at hz
    rcases hz with hz | hz
    · have := HSZ.out z hz; omega
    · rw [hz]; exact he))
  cases fb with
  | false =>
    have HE := Lib.hid (HPP.out.trans (if_neg (by simp)))
    go_enter Try.func14, Try.ntmps14
    go_wp2_with (first | (go_at_call 35; refine HCL.out.mono ?_; rintro e w9 ⟨v9, rfl, hR9, hb9⟩; have HR9 := Lib.hid hR9; have HB9 := Lib.hid hb9; clear hR9 hb9) | (at_builtin; refine Kd.R_append Kd.string (w0 := W) W.heap.size rfl (.tmp 11) (.tmp 13) 22 9 (.string ⟨#[]⟩) 16 rfl Try.underlying22 info9 rfl (by decide) (by omega) v9 s.log en [.string en] (fun _ => True) (fun _ => False) rfl rfl ?aP0 (fun _ hk => hk.elim) ?aF0 ?aO0 ?aB0 ?aS0 ?aL0 ?aK0; (case aP0 => exact rfl); (case aF0 => exact (fun _ _ => trivial)); (case aO0 => exact HR9.out); (case aB0 => exact HB9.out); (case aS0 => exact HB9.out.size); (case aL0 => omega); (intro v1 w3 ho hb hg hat); rw [HL2.out] at ho; have HR3 := Lib.hid (rd_of_R ho); have hN3 := R_fresh ho; obtain ⟨A1, c1, rfl, _, hC1⟩ := Kd.R_reads ho; have HN3 := Lib.hid hN3; clear hN3; have HB3 := Lib.hid hb; have HRL := Lib.hid (HRLF.out _ A1 c1 hC1); clear ho hb hg hat HR9 HB9 hC1) | (go_at_call 23; refine (HF.out _ HB3.out).mono ?_; rintro e w4 ⟨rfl, ⟨m4, rfl⟩⟩))
    go_ret
    exact ⟨by rw [HE.out]; rfl, by rw [HE.out]; exact Mv.of (HH.out.below (pw_below_drewN HB3.out _)) (Fr.of_below (pw_below_drewN HB3.out _))⟩
  | true =>
    cases hrl : rightL L2 with
    | false =>
      have HE := Lib.hid (HPP.out.trans (if_neg (by rw [hrl]; decide)))
      rw [hrl] at HRLF
      clear hrl
      go_enter Try.func14, Try.ntmps14
      go_wp2_with (first | (go_at_call 35; refine HCL.out.mono ?_; rintro e w9 ⟨v9, rfl, hR9, hb9⟩; have HR9 := Lib.hid hR9; have HB9 := Lib.hid hb9; clear hR9 hb9) | (at_builtin; refine Kd.R_append Kd.string (w0 := W) W.heap.size rfl (.tmp 11) (.tmp 13) 22 9 (.string ⟨#[]⟩) 16 rfl Try.underlying22 info9 rfl (by decide) (by omega) v9 s.log en [.string en] (fun _ => True) (fun _ => False) rfl rfl ?aP1 (fun _ hk => hk.elim) ?aF1 ?aO1 ?aB1 ?aS1 ?aL1 ?aK1; (case aP1 => exact rfl); (case aF1 => exact (fun _ _ => trivial)); (case aO1 => exact HR9.out); (case aB1 => exact HB9.out); (case aS1 => exact HB9.out.size); (case aL1 => omega); (intro v1 w3 ho hb hg hat); rw [HL2.out] at ho; have HR3 := Lib.hid (rd_of_R ho); have hN3 := R_fresh ho; obtain ⟨A1, c1, rfl, _, hC1⟩ := Kd.R_reads ho; have HN3 := Lib.hid hN3; clear hN3; have HB3 := Lib.hid hb; have HRL := Lib.hid (HRLF.out _ A1 c1 hC1); clear ho hb hg hat HR9 HB9 hC1) | (go_at_call 23; refine (HF.out _ HB3.out).mono ?_; rintro e w4 ⟨rfl, ⟨m4, rfl⟩⟩) | (go_at_call 34; refine (HRL.out _ (pw_below_drewN (Below.refl _ _) _)).mono ?_; rintro e w5 ⟨rfl, rfl⟩))
      go_ret
      exact ⟨by rw [HE.out]; rfl, by rw [HE.out]; exact Mv.of (HH.out.below (pw_below_drewN HB3.out _)) (Fr.of_below (pw_below_drewN HB3.out _))⟩
    | true =>
      have HE := Lib.hid (HPP.out.trans (if_pos (by rw [hrl]; rfl)))
      have HOK := Lib.hid (okv_log HO.out _ hrl)
      rw [hrl] at HRLF
      clear hrl
      go_enter Try.func14, Try.ntmps14
      go_wp2_with (first | (go_at_call 35; refine HCL.out.mono ?_; rintro e w9 ⟨v9, rfl, hR9, hb9⟩; have HR9 := Lib.hid hR9; have HB9 := Lib.hid hb9; clear hR9 hb9) | (at_builtin; refine Kd.R_append Kd.string (w0 := W) W.heap.size rfl (.tmp 11) (.tmp 13) 22 9 (.string ⟨#[]⟩) 16 rfl Try.underlying22 info9 rfl (by decide) (by omega) v9 s.log en [.string en] (fun _ => True) (fun _ => False) rfl rfl ?aP2 (fun _ hk => hk.elim) ?aF2 ?aO2 ?aB2 ?aS2 ?aL2 ?aK2; (case aP2 => exact rfl); (case aF2 => exact (fun _ _ => trivial)); (case aO2 => exact HR9.out); (case aB2 => exact HB9.out); (case aS2 => exact HB9.out.size); (case aL2 => omega); (intro v1 w3 ho hb hg hat); rw [HL2.out] at ho; have HR3 := Lib.hid (rd_of_R ho); have hN3 := R_fresh ho; obtain ⟨A1, c1, rfl, _, hC1⟩ := Kd.R_reads ho; have HN3 := Lib.hid hN3; clear hN3; have HB3 := Lib.hid hb; have HRL := Lib.hid (HRLF.out _ A1 c1 hC1); clear ho hb hg hat HR9 HB9 hC1) | (go_at_call 23; refine (HF.out _ HB3.out).mono ?_; rintro e w4 ⟨rfl, ⟨m4, rfl⟩⟩) | (go_at_call 34; refine (HRL.out _ (pw_below_drewN (Below.refl _ _) _)).mono ?_; rintro e w5 ⟨rfl, rfl⟩; have z2 := pw_cell_below (pw_below_drewN HB3.out m4) h2; have zf2 := blk_frozen (blk_below HB.out (pw_below_drewN HB3.out m4)) 2))
      have HV := Lib.hid ((HH.out.below (pw_below_drewN HB3.out m4)).put (s' := { s with log := L2 }) 2 (.slice A1 L2.length c1) (blk_put (blk_below HB.out (pw_below_drewN HB3.out m4)) 2 _ rfl) (HR3.out.below (pw_below_drewN (Below.refl _ _) _)) rfl rfl)
      have HFR := Lib.hid (set_fr2 (Fr.of_below (p := p) (am := am) (cm := cm) (pw_below_drewN HB3.out m4)) (.slice A1 L2.length c1) (fun _ k hk => HN3.out k hk))
      refine (reckon_calls HV.out HOK.out).mono ?_
      rintro e w6 ⟨rfl, hv6, hf6⟩
      have HV6 := Lib.hid hv6
      have HF6 := Lib.hid (HFR.out.trans hf6 (.inl rfl) (.inl rfl))
      clear hv6 hf6
      go_wp2_with fail
      go_ret
      exact ⟨by rw [HE.out]; rfl, by rw [HE.out]; exact Mv.of HV6.out HF6.out⟩
end Go.Proofs.Ytndnjmgmdkkifaa.Vw1
