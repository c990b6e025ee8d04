/- Views in memory: the walk of Take (printed by gen_take.py). -/
import Derived.Test.YtndnjmgmdkkifaaVw8
namespace Go.Proofs.Ytndnjmgmdkkifaa.Vw1
open Go Go.RowKit Go.Maps Go.Proofs Go.Proofs.Ytndnjmgmdkkifaa.New Go.Proofs.Ytndnjmgmdkkifaa.Vw Go.Proofs.Ytndnjmgmdkkifaa.Vw0 Go.Proofs.YtndnjmgmdkkifaaW.PrintWords Go.Proofs.YtndnjmgmdkkifaaW.PrintLast Go.Proofs.YtndnjmgmdkkifaaW.PrintMore
set_option linter.unusedVariables false
set_option linter.unusedSimpArgs false

/-- a log that is read, in blocks that a part's calls do not change -/
def Lg (p am cm : Nat) (W : World) (A : Option Addr) (l : Log) : Prop := Kd.C Kd.string W A l.length l ∧ ∀ ad, A = some ad → 0 < l.length → ad.block ≠ p ∧ ad.block ≠ am ∧ ad.block ≠ cm
theorem add_block (a : Addr) (n : Nat) : (a.add n).block = a.block := by unfold Addr.add; split <;> rfl
theorem C_lt {W : World} {ad : Addr} {l : Log} (h : Kd.C Kd.string W (some ad) l.length l) (hp : 0 < l.length) : ad.block < W.heap.size := by
  obtain ⟨ad2, hA, hc⟩ := h.2.2 hp
  cases hA
  obtain ⟨cs, e1, e2, e3⟩ := hc 0 l[0] (by simp)
  cases cs with
  | nil => cases e1
  | cons u r =>
    have := e3 0 u rfl
    rcases Nat.lt_or_ge ad.block W.heap.size with h | h
    · exact h
    · have hb : (ad.add (0 * Kd.string.sz + 0)).block = ad.block := add_block _ _
      unfold World.cell? at this
      rw [hb, Array.getElem?_eq_none h] at this
      cases this
theorem C_keep {W W' : World} {A : Option Addr} {l : Log} (h : Kd.C Kd.string W A l.length l) (hk : ∀ ad, A = some ad → 0 < l.length → W'.heap[ad.block]? = W.heap[ad.block]?) : Kd.C Kd.string W' A l.length l := by
  refine ⟨h.1, h.2.1, fun hp => ?_⟩
  obtain ⟨ad, hA, hc⟩ := h.2.2 hp
  refine ⟨ad, hA, fun j q hj => ?_⟩
  obtain ⟨cs, e1, e2, e3⟩ := hc j q hj
  refine ⟨cs, e1, e2, fun i u hu => ?_⟩
  have := e3 i u hu
  have hblk : (ad.add (j * Kd.string.sz + i)).block = ad.block := add_block _ _
  rw [← this]
  unfold World.cell?
  rw [hblk, hk ad hA hp]
theorem Lg.below {p am cm : Nat} {W W' : World} {A : Option Addr} {l : Log} (h : Lg p am cm W A l) (hb : Below W.heap.size W W') : Lg p am cm W' A l := ⟨Kd.C_below h.1 hb, h.2⟩
theorem Lg.fr {p am cm : Nat} {W W' : World} {A : Option Addr} {l : Log} (h : Lg p am cm W A l) (hf : Fr W W' p am cm) : Lg p am cm W' A l :=
  ⟨C_keep h.1 fun ad hA hp => by
    obtain ⟨h1, h2, h3⟩ := h.2 ad hA hp
    subst hA
    exact hf.block _ (C_lt h.1 hp) h1 h2 h3, h.2⟩
theorem Lg.of_rd {p am cm : Nat} {W : World} {A : Option Addr} {n c : Nat} {l : Log} {s : V} (h : Rd W (.slice A n c) l) (hv : VRep W p am cm s) : Lg p am cm W A l := by
  obtain ⟨A2, c2, e, _, h2, h3⟩ := h
  cases e
  exact ⟨h2, fun ad hA hp => by
    obtain ⟨cells, fr, hb⟩ := h3 ad hA hp
    exact hv.kinds hb⟩
theorem fr_block {W w : World} {p am cm k : Nat} {o : Obj} (h : Fr W w p am cm) (hk : W.heap[k]? = some o) (h1 : k ≠ p) (h2 : k ≠ am) (h3 : k ≠ cm) : w.heap[k]? = some o := (h.block k (blk_lt' hk) h1 h2 h3).trans hk
theorem take_no1 {s : V} {fr : Int} {l : Ltr} (h : s.otherB fr = false) : s.take fr l = (s, false) := by unfold V.take; rw [h]; rfl
theorem take_no2 {s : V} {fr : Int} {l : Ltr} (h : s.rightB l = false) : s.take fr l = (s, false) := by unfold V.take; rw [h, Bool.and_false]; rfl
theorem take_yes {s : V} {fr : Int} {l : Ltr} (h : s.otherB fr = true) (k : s.rightB l = true) : s.take fr l = ((if s.view < l.view then s.fresh l.view else s).got fr l, true) := by unfold V.take; rw [h, k]; rfl
theorem got1 {t : V} {fr : Int} {l : Ltr} (hk : l.kind = 1) (hf : fr = t.first) : t.got fr l =
    (let u := if (!t.normalB || decide (t.log.length ≤ l.log.length)) = true then { t with log := l.log, normal := t.view } else t
     { u with stays := imax u.stays (imin l.stays u.log.length) }) := by
  unfold V.got; rw [hk, hf]; simp
theorem got1n {t : V} {fr : Int} {l : Ltr} (hk : l.kind = 1) (hf : (fr == t.first) = false) : t.got fr l = t := by
  unfold V.got; rw [hk, hf]; rfl
theorem got2 {t : V} {fr : Int} {l : Ltr} (hk : l.kind = 2) (hf : t.firstB = true) : t.got fr l = V.reckon { t with acked := t.acked.set fr.toNat (imax (t.acked.getD fr.toNat 0) l.len) } := by
  unfold V.got; rw [hk, hf]; rfl
theorem got2n {t : V} {fr : Int} {l : Ltr} (hk : l.kind = 2) (hf : t.firstB = false) : t.got fr l = t := by
  unfold V.got; rw [hk, hf]; rfl
theorem got3 {t : V} {fr : Int} {l : Ltr} (hk : l.kind = 3) (hf : (t.first == t.me) = true) (hn : t.normalB = false) : t.got fr l = V.count { t with changes := t.changes.set fr.toNat (some (l.normal, l.log)) } := by
  unfold V.got; rw [hk, hf, hn]; rfl
theorem got3n {t : V} {fr : Int} {l : Ltr} (hk : l.kind = 3) (hf : (t.first == t.me && !t.normalB) = false) : t.got fr l = t := by
  unfold V.got; rw [hk, hf]; rfl
set_option maxHeartbeats 16000000 in
set_option maxRecDepth 100000 in
theorem Take_calls {W : World} {p am cm : Nat} {s : V} (h : VRep W p am cm s) (o : OkV s) (fr : Int) (l : Ltr) (A : Option Addr) (c : Nat) (hrd : Lg p am cm W A l.log) (hl : l.log.length ≤ 1000000) (hs : ∀ z ∈ l.log, z.size ≤ 140737488355328) :
    Calls Try.prog 18 #[.pointer (some ⟨p, 0, none⟩), .int .i64 fr, ltrV l A c] W fun e w' => e = .returned (.bool (s.take fr l).2) ∧ Mv W w' p am cm (s.take fr l).1 := by
  have HH := Lib.hid h
  have HO := Lib.hid o
  have HRD := Lib.hid hrd
  have HOT := Lib.hid (fun W' (hw : Below W.heap.size W W') => by
    obtain ⟨A0, c0, hb, _⟩ := h.blk
    exact other_calls (blk_below hb hw) fr)
  have HRT := Lib.hid (fun W' (hw : Below W.heap.size W W') => right_calls (h.below hw) l A c (Kd.C_below hrd.1 hw) hl hs)
  have HT1 := Lib.hid (fun h => take_no1 (s := s) (fr := fr) (l := l) h)
  have HT2 := Lib.hid (fun h => take_no2 (s := s) (fr := fr) (l := l) h)
  have HT3 := Lib.hid (fun h k => take_yes (s := s) (fr := fr) (l := l) h k)
  have HGT := Lib.hid (fun (t : V) => (show t.got fr l = t.got fr l from rfl))
  have HRF := Lib.hid (fun h => right_facts (s := s) (l := l) h)
  obtain ⟨A0, c0, hb, _⟩ := h.blk
  have i0 := (cells8 hb).1
  have hbd := h.lt
  have HBD := Lib.hid hbd
  unfold ltrV at HRT ⊢
  clear h o hrd hs hb hbd
  obtain ⟨ob, hob⟩ : ∃ ob, s.otherB fr = ob := ⟨_, rfl⟩
  rw [hob] at HOT
  cases ob with
  | false =>
    have HE := Lib.hid (HT1.out hob)
    clear hob HT1 HT2 HT3
    go_enter Try.func18, Try.ntmps18
    go_wp2_with (first | (go_at_call 44; refine (HOT.out _ (below_alloc (Below.refl _ _) _)).mono ?_; rintro e w1 ⟨rfl, rfl⟩))
    go_ret
    exact ⟨by rw [HE.out]; rfl, by rw [HE.out]; exact Mv.of (HH.out.below (below_alloc (Below.refl _ _) _)) (Fr.of_below (below_alloc (Below.refl _ _) _))⟩
  | true =>
    obtain ⟨rb, hrb⟩ : ∃ rb, s.rightB l = rb := ⟨_, rfl⟩
    rw [hrb] at HRT
    cases rb with
    | false =>
      have HE := Lib.hid (HT2.out hrb)
      clear hob hrb HT1 HT2 HT3
      go_enter Try.func18, Try.ntmps18
      go_wp2_with (first | (go_at_call 44; refine (HOT.out _ (below_alloc (Below.refl _ _) _)).mono ?_; rintro e w1 ⟨rfl, rfl⟩) | (go_at_call 45; refine (HRT.out _ (below_alloc (Below.refl _ _) _)).mono ?_; rintro e w2 ⟨rfl, hb2⟩; have HB2 := Lib.hid hb2; clear hb2))
      go_ret
      exact ⟨by rw [HE.out]; rfl, by rw [HE.out]; exact Mv.of (HH.out.below (below_step (below_alloc (Below.refl _ _) _) HB2.out)) (Fr.of_below (below_step (below_alloc (Below.refl _ _) _) HB2.out))⟩
    | true =>
      have HE0 := Lib.hid (HT3.out hob hrb)
      have HF0 := Lib.hid (HRF.out hrb)
      have HOB := Lib.hid (other_facts hob)
      clear hob hrb HT1 HT2 HT3 HRF
      by_cases hv : l.view > s.view
      · have HT := Lib.hid (fun W' (hw : Below W.heap.size W W') => turn_calls (HH.out.below hw) l.view)
        obtain ⟨t, ht⟩ : ∃ t, t = s.fresh l.view := ⟨_, rfl⟩
        have HE := Lib.hid (show s.take fr l = (t.got fr l, true) from HE0.out.trans (by rw [if_pos hv, ht]))
        have HTT := Lib.hid ht
        clear ht
        have HOt := Lib.hid (show OkV t by rw [HTT.out]; exact okv_fresh HO.out _ (by omega) HF0.out.2.2.1)
        have HFI := Lib.hid (fun (W' : World) (A : Option Addr) (c am cm : Nat) (hb : Blk W' p am cm A c t) => first_calls hb HOt.out)
        have HNI := Lib.hid (fun (W' : World) (A : Option Addr) (c am cm : Nat) (hb : Blk W' p am cm A c t) => normal_calls hb)
        have HFF := Lib.hid (fun (W' : World) (A : Option Addr) (c am cm : Nat) (hb : Blk W' p am cm A c t) => First_calls hb HOt.out)
        obtain ⟨hbd1, hbd2, hbd3⟩ := HBD.out
        have hkk0 := HF0.out.2.2.2.2.1
        have hkk1 := HF0.out.2.2.2.2.2.1
        obtain ⟨me, hme⟩ : ∃ me, t.me = me := ⟨_, rfl⟩
        obtain ⟨fi, hfi⟩ : ∃ fi, t.first = fi := ⟨_, rfl⟩
        obtain ⟨fb, hfb⟩ : ∃ fb, t.firstB = fb := ⟨_, rfl⟩
        obtain ⟨no, hno⟩ : ∃ no, t.normalB = no := ⟨_, rfl⟩
        rw [hfi] at HFI
        rw [hfb] at HFF
        rw [hno] at HNI
        have HME := Lib.hid hme
        have HFIe := Lib.hid hfi
        have HFBe := Lib.hid hfb
        have HNOe := Lib.hid hno
        clear hme hfi hfb hno
        rcases (show l.kind = 1 ∨ l.kind = 2 ∨ l.kind = 3 by omega) with hkk | hkk | hkk
        all_goals have HKK := Lib.hid hkk
        all_goals clear hkk hkk0 hkk1
        · by_cases hff : fr = fi
          · subst hff
            have hll := rightL_len HF0.out.2.2.2.2.2.2.1
            have hfe : (fr == fr) = true := beq_self_eq_true fr
            cases no with
            | false =>
              have HGO := Lib.hid (show t.got fr l = { ({ t with log := l.log, normal := t.view } : V) with stays := imax t.stays (imin l.stays l.log.length) } from (got1 HKK.out HFIe.out.symm).trans (by rw [HNOe.out]; rfl))
              go_enter Try.func18, Try.ntmps18
              go_wp2_with (first | (go_at_call 44; refine (HOT.out _ (below_alloc (Below.refl _ _) _)).mono ?_; rintro e w1 ⟨rfl, rfl⟩) | (go_at_call 45; refine (HRT.out _ (below_alloc (Below.refl _ _) _)).mono ?_; rintro e w2 ⟨rfl, hb2⟩; have HB2 := Lib.hid (below_step (below_alloc (Below.refl _ _) _) hb2); have HG2 := Lib.hid (blk_below (blk_new W (Obj.cells #[Value.int .i64 l.kind, Value.int .i64 l.view, Value.int .i64 l.normal, Value.int .i64 l.len, Value.int .i64 l.stays, Value.slice A l.log.length c, Value.int .i64 l.num, Value.string l.text] 33)) hb2); have j0 := pw_cell_below HB2.out i0; have g1 := (cells8 HG2.out).2.1; clear hb2))
              go_quiet (fail)
              go_wp2_with (first | (go_at_call 36; refine (HT.out _ (pw_below_drewN HB2.out _)).mono ?_; rintro e w4 ⟨rfl, am4, cm4, hv4, hf4, ha4, hc4⟩; rw [← HTT.out] at hv4; have hg4 := fr_block hf4 (blk_drewN HG2.out _) (by omega) (by omega) (by omega); have HR4 := Lib.hid ((HRD.out.below (pw_below_drewN HB2.out _)).fr hf4); have HF4 := Lib.hid ((Fr.of_below (p := p) (am := am) (cm := cm) (pw_below_drewN HB2.out _)).trans hf4 (.inl rfl) (.inl rfl)); have HA4 := Lib.hid (ha4.imp_right (Nat.le_trans (pw_below_drewN HB2.out _).size)); have HC4 := Lib.hid (hc4.imp_right (Nat.le_trans (pw_below_drewN HB2.out _).size)); have HV4 := Lib.hid hv4; obtain ⟨A4, c4, hb4, _⟩ := hv4.blk; clear hv4 hf4 ha4 hc4; have HG4 := Lib.hid hg4; have HB4 := Lib.hid hb4; obtain ⟨q0, q1, q2, q3, q4, q5, q6, q7⟩ := cells8 HG4.out; obtain ⟨p0, p1, p2, p3, p4, p5, p6, p7⟩ := cells8 HB4.out; rw [HKK.out] at q0; rw [HME.out] at p3; clear hg4 hb4) | (go_at_call 46; refine (HFI.out _ _ _ _ _ HB4.out).mono ?_; rintro e w5a ⟨rfl, ⟨m5, hm5⟩⟩; have hb5a : Below w4.heap.size w4 w5a := (by rw [hm5]; exact pw_below_drewN (Below.refl _ _) _); have HB45 := Lib.hid hb5a; have HB5a := Lib.hid (blk_below HB4.out hb5a); have x2 := pw_cell_below hb5a p2; have x5 := pw_cell_below hb5a q5; clear hm5 hb5a))
              go_quiet ((go_at_call 47; exact Calls.quiet_of (HNI.out _ _ _ _ _ HB5a.out)))
              generalize hw5 : w5a.drewN _ = w5
              have hb5 : Below w4.heap.size w4 w5 := by rw [← hw5]; exact pw_below_drewN HB45.out _
              have HV5 := Lib.hid (HV4.out.below hb5)
              have HF5 := Lib.hid (HF4.out.below hb5)
              have HG5 := Lib.hid (blk_below HG4.out hb5)
              have HB5 := Lib.hid (blk_below HB4.out hb5)
              have HCL := Lib.hid (fun w (hw : Below w5.heap.size w5 w) => clone_calls A c l.log w (Kd.C_below (HR4.out.below hb5).1 hw) (by omega))
              have r0 := pw_cell_below hb5 p0
              have r1 := pw_cell_below hb5 p1
              have r2 := pw_cell_below hb5 p2
              have s5 := pw_cell_below hb5 q5
              clear p0 p1 p2 p3 p4 p5 p6 p7 q0 q1 q2 q3 q4 q5 q6 q7 hw5 hb5 x2 x5
              go_wp2_with fail
              go_region_with (go_at_call 35; refine (HCL.out _ ?_).mono ?_; (first | exact below_drew1 (Below.refl _ _) | exact Below.refl _ _); rintro e w9 ⟨v9, rfl, hR9, hb8⟩; have hb9 : Below w5.heap.size w5 w9 := (by first | exact below_step (below_drew1 (Below.refl _ _)) hb8 | exact hb8); have HR9 := Lib.hid (rd_of_R hR9); have hN9 := R_fresh hR9; obtain ⟨A5, c5, rfl, _, _⟩ := Kd.R_reads hR9; have HN9 := Lib.hid hN9; clear hN9; have HB9 := Lib.hid hb9; have z0 := pw_cell_below (w := w5) hb9 r0; have z1 := pw_cell_below (w := w5) hb9 r1; have z2 := pw_cell_below (w := w5) hb9 r2; have zf1 := blk_frozen (blk_below (w := w5) HB5.out hb9) 1; have zf2 := blk_frozen (blk_below (w := w5) HB5.out hb9) 2; clear hb9 hb8 hR9)
              all_goals
                have HVF := Lib.hid (adopt_put HV5.out HOt.out HB9.out HR9.out HF0.out.2.2.2.2.2.2.1)
                have HFF := Lib.hid (set_fr (set_fr2 (HF5.out.below HB9.out) (.slice A5 l.log.length c5) (fun _ k hk => Nat.le_trans HF5.out.size (HN9.out k hk))) 1 (.int .i64 t.view))
                have HGF := Lib.hid (blk_far (blk_far (blk_below HG5.out HB9.out) (p := ⟨p, 2, none⟩) (by show W.heap.size ≠ p; omega) (.slice A5 l.log.length c5)) (p := ⟨p, 1, none⟩) (by show W.heap.size ≠ p; omega) (.int .i64 t.view))
                clear z0 z1 z2 zf1 zf2 r0 r1 r2 s5 HR9
                generalize (w9.setCell ⟨p, 2, none⟩ (.slice A5 l.log.length c5)).setCell ⟨p, 1, none⟩ (.int .i64 t.view) = w6 at HVF HFF HGF ⊢
                have HV6 := Lib.hid HVF.out.1
                have HF6 := Lib.hid HFF.out
                have HG6 := Lib.hid HGF.out
                obtain ⟨u, hu⟩ : ∃ u : V, { t with log := l.log, normal := t.view } = u := ⟨_, rfl⟩
                rw [hu] at HV6
                have HGO3 := Lib.hid (show t.got fr l = { u with stays := imax u.stays (imin l.stays u.log.length) } by rw [← hu]; exact HGO.out)
                clear hu HVF HFF HGF
                obtain ⟨A6, c6, hb6, hl6⟩ := HV6.out.blk
                have e2 := (cells8 hb6).2.2.1
                have e5 := (cells8 hb6).2.2.2.2.2.1
                have e4 := (cells8 HG6.out).2.2.2.2.1
                have f5 := blk_frozen hb6 5
                have HB6 := Lib.hid hb6
                have HL6 := Lib.hid hl6
                clear hb6 hl6
                go_wp2_with fail
                go_region
                all_goals
                  go_wp2_with fail
                  go_ret
                  have hput := (HV6.out.below (below_drew1 (Below.refl _ _))).put (s' := { u with stays := max u.stays (min l.stays (u.log.length : Int)) }) 5 (.int .i64 (max u.stays (min l.stays (u.log.length : Int)))) (blk_put (blk_drew HB6.out) 5 _ rfl) (HL6.out.below (below_drew1 (Below.refl _ _))) rfl rfl
                  exact ⟨by rw [HE.out]; rfl, by rw [HE.out, HGO3.out, imax_is, imin_is]; exact ⟨_, _, hput, set_fr (HF6.out.below (below_drew1 (Below.refl _ _))) 5 _, HA4.out, HC4.out⟩⟩
            | true =>
              by_cases hlc : (l.log.length : Int) ≥ (t.log.length : Int)
              · have HGO := Lib.hid (show t.got fr l = { ({ t with log := l.log, normal := t.view } : V) with stays := imax t.stays (imin l.stays l.log.length) } from (got1 HKK.out HFIe.out.symm).trans (by rw [HNOe.out, show decide (t.log.length ≤ l.log.length) = true from decide_eq_true (by omega)]; rfl))
                go_enter Try.func18, Try.ntmps18
                go_wp2_with (first | (go_at_call 44; refine (HOT.out _ (below_alloc (Below.refl _ _) _)).mono ?_; rintro e w1 ⟨rfl, rfl⟩) | (go_at_call 45; refine (HRT.out _ (below_alloc (Below.refl _ _) _)).mono ?_; rintro e w2 ⟨rfl, hb2⟩; have HB2 := Lib.hid (below_step (below_alloc (Below.refl _ _) _) hb2); have HG2 := Lib.hid (blk_below (blk_new W (Obj.cells #[Value.int .i64 l.kind, Value.int .i64 l.view, Value.int .i64 l.normal, Value.int .i64 l.len, Value.int .i64 l.stays, Value.slice A l.log.length c, Value.int .i64 l.num, Value.string l.text] 33)) hb2); have j0 := pw_cell_below HB2.out i0; have g1 := (cells8 HG2.out).2.1; clear hb2))
                go_quiet (fail)
                go_wp2_with (first | (go_at_call 36; refine (HT.out _ (pw_below_drewN HB2.out _)).mono ?_; rintro e w4 ⟨rfl, am4, cm4, hv4, hf4, ha4, hc4⟩; rw [← HTT.out] at hv4; have hg4 := fr_block hf4 (blk_drewN HG2.out _) (by omega) (by omega) (by omega); have HR4 := Lib.hid ((HRD.out.below (pw_below_drewN HB2.out _)).fr hf4); have HF4 := Lib.hid ((Fr.of_below (p := p) (am := am) (cm := cm) (pw_below_drewN HB2.out _)).trans hf4 (.inl rfl) (.inl rfl)); have HA4 := Lib.hid (ha4.imp_right (Nat.le_trans (pw_below_drewN HB2.out _).size)); have HC4 := Lib.hid (hc4.imp_right (Nat.le_trans (pw_below_drewN HB2.out _).size)); have HV4 := Lib.hid hv4; obtain ⟨A4, c4, hb4, _⟩ := hv4.blk; clear hv4 hf4 ha4 hc4; have HG4 := Lib.hid hg4; have HB4 := Lib.hid hb4; obtain ⟨q0, q1, q2, q3, q4, q5, q6, q7⟩ := cells8 HG4.out; obtain ⟨p0, p1, p2, p3, p4, p5, p6, p7⟩ := cells8 HB4.out; rw [HKK.out] at q0; rw [HME.out] at p3; clear hg4 hb4) | (go_at_call 46; refine (HFI.out _ _ _ _ _ HB4.out).mono ?_; rintro e w5a ⟨rfl, ⟨m5, hm5⟩⟩; have hb5a : Below w4.heap.size w4 w5a := (by rw [hm5]; exact pw_below_drewN (Below.refl _ _) _); have HB45 := Lib.hid hb5a; have HB5a := Lib.hid (blk_below HB4.out hb5a); have x2 := pw_cell_below hb5a p2; have x5 := pw_cell_below hb5a q5; clear hm5 hb5a))
                go_quiet ((go_at_call 47; exact Calls.quiet_of (HNI.out _ _ _ _ _ HB5a.out)))
                generalize hw5 : w5a.drewN _ = w5
                have hb5 : Below w4.heap.size w4 w5 := by rw [← hw5]; exact pw_below_drewN HB45.out _
                have HV5 := Lib.hid (HV4.out.below hb5)
                have HF5 := Lib.hid (HF4.out.below hb5)
                have HG5 := Lib.hid (blk_below HG4.out hb5)
                have HB5 := Lib.hid (blk_below HB4.out hb5)
                have HCL := Lib.hid (fun w (hw : Below w5.heap.size w5 w) => clone_calls A c l.log w (Kd.C_below (HR4.out.below hb5).1 hw) (by omega))
                have r0 := pw_cell_below hb5 p0
                have r1 := pw_cell_below hb5 p1
                have r2 := pw_cell_below hb5 p2
                have s5 := pw_cell_below hb5 q5
                clear p0 p1 p2 p3 p4 p5 p6 p7 q0 q1 q2 q3 q4 q5 q6 q7 hw5 hb5 x2 x5
                go_wp2_with fail
                go_region_with (go_at_call 35; refine (HCL.out _ ?_).mono ?_; (first | exact below_drew1 (Below.refl _ _) | exact Below.refl _ _); rintro e w9 ⟨v9, rfl, hR9, hb8⟩; have hb9 : Below w5.heap.size w5 w9 := (by first | exact below_step (below_drew1 (Below.refl _ _)) hb8 | exact hb8); have HR9 := Lib.hid (rd_of_R hR9); have hN9 := R_fresh hR9; obtain ⟨A5, c5, rfl, _, _⟩ := Kd.R_reads hR9; have HN9 := Lib.hid hN9; clear hN9; have HB9 := Lib.hid hb9; have z0 := pw_cell_below (w := w5) hb9 r0; have z1 := pw_cell_below (w := w5) hb9 r1; have z2 := pw_cell_below (w := w5) hb9 r2; have zf1 := blk_frozen (blk_below (w := w5) HB5.out hb9) 1; have zf2 := blk_frozen (blk_below (w := w5) HB5.out hb9) 2; clear hb9 hb8 hR9)
                all_goals
                  have HVF := Lib.hid (adopt_put HV5.out HOt.out HB9.out HR9.out HF0.out.2.2.2.2.2.2.1)
                  have HFF := Lib.hid (set_fr (set_fr2 (HF5.out.below HB9.out) (.slice A5 l.log.length c5) (fun _ k hk => Nat.le_trans HF5.out.size (HN9.out k hk))) 1 (.int .i64 t.view))
                  have HGF := Lib.hid (blk_far (blk_far (blk_below HG5.out HB9.out) (p := ⟨p, 2, none⟩) (by show W.heap.size ≠ p; omega) (.slice A5 l.log.length c5)) (p := ⟨p, 1, none⟩) (by show W.heap.size ≠ p; omega) (.int .i64 t.view))
                  clear z0 z1 z2 zf1 zf2 r0 r1 r2 s5 HR9
                  generalize (w9.setCell ⟨p, 2, none⟩ (.slice A5 l.log.length c5)).setCell ⟨p, 1, none⟩ (.int .i64 t.view) = w6 at HVF HFF HGF ⊢
                  have HV6 := Lib.hid HVF.out.1
                  have HF6 := Lib.hid HFF.out
                  have HG6 := Lib.hid HGF.out
                  obtain ⟨u, hu⟩ : ∃ u : V, { t with log := l.log, normal := t.view } = u := ⟨_, rfl⟩
                  rw [hu] at HV6
                  have HGO3 := Lib.hid (show t.got fr l = { u with stays := imax u.stays (imin l.stays u.log.length) } by rw [← hu]; exact HGO.out)
                  clear hu HVF HFF HGF
                  obtain ⟨A6, c6, hb6, hl6⟩ := HV6.out.blk
                  have e2 := (cells8 hb6).2.2.1
                  have e5 := (cells8 hb6).2.2.2.2.2.1
                  have e4 := (cells8 HG6.out).2.2.2.2.1
                  have f5 := blk_frozen hb6 5
                  have HB6 := Lib.hid hb6
                  have HL6 := Lib.hid hl6
                  clear hb6 hl6
                  go_wp2_with fail
                  go_region
                  all_goals
                    go_wp2_with fail
                    go_ret
                    have hput := (HV6.out.below (below_drew1 (Below.refl _ _))).put (s' := { u with stays := max u.stays (min l.stays (u.log.length : Int)) }) 5 (.int .i64 (max u.stays (min l.stays (u.log.length : Int)))) (blk_put (blk_drew HB6.out) 5 _ rfl) (HL6.out.below (below_drew1 (Below.refl _ _))) rfl rfl
                    exact ⟨by rw [HE.out]; rfl, by rw [HE.out, HGO3.out, imax_is, imin_is]; exact ⟨_, _, hput, set_fr (HF6.out.below (below_drew1 (Below.refl _ _))) 5 _, HA4.out, HC4.out⟩⟩
              · have HGO := Lib.hid (show t.got fr l = { t with stays := imax t.stays (imin l.stays t.log.length) } from (got1 HKK.out HFIe.out.symm).trans (by rw [HNOe.out, show decide (t.log.length ≤ l.log.length) = false from decide_eq_false (by omega)]; rfl))
                go_enter Try.func18, Try.ntmps18
                go_wp2_with (first | (go_at_call 44; refine (HOT.out _ (below_alloc (Below.refl _ _) _)).mono ?_; rintro e w1 ⟨rfl, rfl⟩) | (go_at_call 45; refine (HRT.out _ (below_alloc (Below.refl _ _) _)).mono ?_; rintro e w2 ⟨rfl, hb2⟩; have HB2 := Lib.hid (below_step (below_alloc (Below.refl _ _) _) hb2); have HG2 := Lib.hid (blk_below (blk_new W (Obj.cells #[Value.int .i64 l.kind, Value.int .i64 l.view, Value.int .i64 l.normal, Value.int .i64 l.len, Value.int .i64 l.stays, Value.slice A l.log.length c, Value.int .i64 l.num, Value.string l.text] 33)) hb2); have j0 := pw_cell_below HB2.out i0; have g1 := (cells8 HG2.out).2.1; clear hb2))
                go_quiet (fail)
                go_wp2_with (first | (go_at_call 36; refine (HT.out _ (pw_below_drewN HB2.out _)).mono ?_; rintro e w4 ⟨rfl, am4, cm4, hv4, hf4, ha4, hc4⟩; rw [← HTT.out] at hv4; have hg4 := fr_block hf4 (blk_drewN HG2.out _) (by omega) (by omega) (by omega); have HR4 := Lib.hid ((HRD.out.below (pw_below_drewN HB2.out _)).fr hf4); have HF4 := Lib.hid ((Fr.of_below (p := p) (am := am) (cm := cm) (pw_below_drewN HB2.out _)).trans hf4 (.inl rfl) (.inl rfl)); have HA4 := Lib.hid (ha4.imp_right (Nat.le_trans (pw_below_drewN HB2.out _).size)); have HC4 := Lib.hid (hc4.imp_right (Nat.le_trans (pw_below_drewN HB2.out _).size)); have HV4 := Lib.hid hv4; obtain ⟨A4, c4, hb4, _⟩ := hv4.blk; clear hv4 hf4 ha4 hc4; have HG4 := Lib.hid hg4; have HB4 := Lib.hid hb4; obtain ⟨q0, q1, q2, q3, q4, q5, q6, q7⟩ := cells8 HG4.out; obtain ⟨p0, p1, p2, p3, p4, p5, p6, p7⟩ := cells8 HB4.out; rw [HKK.out] at q0; rw [HME.out] at p3; clear hg4 hb4) | (go_at_call 46; refine (HFI.out _ _ _ _ _ HB4.out).mono ?_; rintro e w5a ⟨rfl, ⟨m5, hm5⟩⟩; have hb5a : Below w4.heap.size w4 w5a := (by rw [hm5]; exact pw_below_drewN (Below.refl _ _) _); have HB45 := Lib.hid hb5a; have HB5a := Lib.hid (blk_below HB4.out hb5a); have x2 := pw_cell_below hb5a p2; have x5 := pw_cell_below hb5a q5; clear hm5 hb5a))
                go_quiet ((go_at_call 47; exact Calls.quiet_of (HNI.out _ _ _ _ _ HB5a.out)))
                generalize hw5 : w5a.drewN _ = w5
                have hb5 : Below w4.heap.size w4 w5 := by rw [← hw5]; exact pw_below_drewN HB45.out _
                have HV5 := Lib.hid (HV4.out.below hb5)
                have HF5 := Lib.hid (HF4.out.below hb5)
                have HG5 := Lib.hid (blk_below HG4.out hb5)
                have HB5 := Lib.hid (blk_below HB4.out hb5)
                have HCL := Lib.hid (fun w (hw : Below w5.heap.size w5 w) => clone_calls A c l.log w (Kd.C_below (HR4.out.below hb5).1 hw) (by omega))
                have r0 := pw_cell_below hb5 p0
                have r1 := pw_cell_below hb5 p1
                have r2 := pw_cell_below hb5 p2
                have s5 := pw_cell_below hb5 q5
                clear p0 p1 p2 p3 p4 p5 p6 p7 q0 q1 q2 q3 q4 q5 q6 q7 hw5 hb5 x2 x5
                go_wp2_with fail
                have HV6 := Lib.hid HV5.out
                have HF6 := Lib.hid HF5.out
                have HG6 := Lib.hid HG5.out
                clear r0 r1 r2 s5
                obtain ⟨u, hu⟩ : ∃ u : V, t = u := ⟨_, rfl⟩
                rw [hu] at HV6
                have HGO3 := Lib.hid (show t.got fr l = { u with stays := imax u.stays (imin l.stays u.log.length) } by rw [← hu]; exact HGO.out)
                clear hu
                generalize w5 = w6 at HV6 HF6 HG6 ⊢
                obtain ⟨A6, c6, hb6, hl6⟩ := HV6.out.blk
                have e2 := (cells8 hb6).2.2.1
                have e5 := (cells8 hb6).2.2.2.2.2.1
                have e4 := (cells8 HG6.out).2.2.2.2.1
                have f5 := blk_frozen hb6 5
                have HB6 := Lib.hid hb6
                have HL6 := Lib.hid hl6
                clear hb6 hl6
                go_region
                all_goals
                  go_wp2_with fail
                  go_ret
                  have hput := (HV6.out.below (below_drew1 (Below.refl _ _))).put (s' := { u with stays := max u.stays (min l.stays (u.log.length : Int)) }) 5 (.int .i64 (max u.stays (min l.stays (u.log.length : Int)))) (blk_put (blk_drew HB6.out) 5 _ rfl) (HL6.out.below (below_drew1 (Below.refl _ _))) rfl rfl
                  exact ⟨by rw [HE.out]; rfl, by rw [HE.out, HGO3.out, imax_is, imin_is]; exact ⟨_, _, hput, set_fr (HF6.out.below (below_drew1 (Below.refl _ _))) 5 _, HA4.out, HC4.out⟩⟩
          · have HGO := Lib.hid (got1n (t := t) (fr := fr) HKK.out (by rw [HFIe.out]; exact beq_eq_false_iff_ne.2 hff))
            have hfe : (fr == fi) = false := beq_eq_false_iff_ne.2 hff
            go_enter Try.func18, Try.ntmps18
            go_wp2_with (first | (go_at_call 44; refine (HOT.out _ (below_alloc (Below.refl _ _) _)).mono ?_; rintro e w1 ⟨rfl, rfl⟩) | (go_at_call 45; refine (HRT.out _ (below_alloc (Below.refl _ _) _)).mono ?_; rintro e w2 ⟨rfl, hb2⟩; have HB2 := Lib.hid (below_step (below_alloc (Below.refl _ _) _) hb2); have HG2 := Lib.hid (blk_below (blk_new W (Obj.cells #[Value.int .i64 l.kind, Value.int .i64 l.view, Value.int .i64 l.normal, Value.int .i64 l.len, Value.int .i64 l.stays, Value.slice A l.log.length c, Value.int .i64 l.num, Value.string l.text] 33)) hb2); have j0 := pw_cell_below HB2.out i0; have g1 := (cells8 HG2.out).2.1; clear hb2))
            go_quiet (fail)
            go_wp2_with (first | (go_at_call 36; refine (HT.out _ (pw_below_drewN HB2.out _)).mono ?_; rintro e w4 ⟨rfl, am4, cm4, hv4, hf4, ha4, hc4⟩; rw [← HTT.out] at hv4; have hg4 := fr_block hf4 (blk_drewN HG2.out _) (by omega) (by omega) (by omega); have HR4 := Lib.hid ((HRD.out.below (pw_below_drewN HB2.out _)).fr hf4); have HF4 := Lib.hid ((Fr.of_below (p := p) (am := am) (cm := cm) (pw_below_drewN HB2.out _)).trans hf4 (.inl rfl) (.inl rfl)); have HA4 := Lib.hid (ha4.imp_right (Nat.le_trans (pw_below_drewN HB2.out _).size)); have HC4 := Lib.hid (hc4.imp_right (Nat.le_trans (pw_below_drewN HB2.out _).size)); have HV4 := Lib.hid hv4; obtain ⟨A4, c4, hb4, _⟩ := hv4.blk; clear hv4 hf4 ha4 hc4; have HG4 := Lib.hid hg4; have HB4 := Lib.hid hb4; obtain ⟨q0, q1, q2, q3, q4, q5, q6, q7⟩ := cells8 HG4.out; obtain ⟨p0, p1, p2, p3, p4, p5, p6, p7⟩ := cells8 HB4.out; rw [HKK.out] at q0; rw [HME.out] at p3; clear hg4 hb4) | (go_at_call 46; refine (HFI.out _ _ _ _ _ HB4.out).mono ?_; rintro e w5 ⟨rfl, ⟨m5, rfl⟩⟩))
            go_quiet (first | (go_at_call 46; exact Calls.quiet_of (HFI.out _ _ _ _ _ HB4.out)) | (go_at_call 47; exact Calls.quiet_of (HNI.out _ _ _ _ _ HB4.out)))
            go_wp2_with fail
            go_ret
            exact ⟨by rw [HE.out]; rfl, by rw [HE.out, HGO.out]; exact ⟨_, _, HV4.out.below (pw_below_drewN (pw_below_drewN (Below.refl _ _) _) _), HF4.out.below (pw_below_drewN (pw_below_drewN (Below.refl _ _) _) _), by first | exact HA4.out | exact .inl rfl, by first | exact HC4.out | exact .inl rfl⟩⟩
        · cases fb with
          | false =>
            have HGO := Lib.hid (got2n (t := t) (fr := fr) HKK.out HFBe.out)
            go_enter Try.func18, Try.ntmps18
            go_wp2_with (first | (go_at_call 44; refine (HOT.out _ (below_alloc (Below.refl _ _) _)).mono ?_; rintro e w1 ⟨rfl, rfl⟩) | (go_at_call 45; refine (HRT.out _ (below_alloc (Below.refl _ _) _)).mono ?_; rintro e w2 ⟨rfl, hb2⟩; have HB2 := Lib.hid (below_step (below_alloc (Below.refl _ _) _) hb2); have HG2 := Lib.hid (blk_below (blk_new W (Obj.cells #[Value.int .i64 l.kind, Value.int .i64 l.view, Value.int .i64 l.normal, Value.int .i64 l.len, Value.int .i64 l.stays, Value.slice A l.log.length c, Value.int .i64 l.num, Value.string l.text] 33)) hb2); have j0 := pw_cell_below HB2.out i0; have g1 := (cells8 HG2.out).2.1; clear hb2))
            go_quiet (fail)
            go_wp2_with (first | (go_at_call 36; refine (HT.out _ (pw_below_drewN HB2.out _)).mono ?_; rintro e w4 ⟨rfl, am4, cm4, hv4, hf4, ha4, hc4⟩; rw [← HTT.out] at hv4; have hg4 := fr_block hf4 (blk_drewN HG2.out _) (by omega) (by omega) (by omega); have HR4 := Lib.hid ((HRD.out.below (pw_below_drewN HB2.out _)).fr hf4); have HF4 := Lib.hid ((Fr.of_below (p := p) (am := am) (cm := cm) (pw_below_drewN HB2.out _)).trans hf4 (.inl rfl) (.inl rfl)); have HA4 := Lib.hid (ha4.imp_right (Nat.le_trans (pw_below_drewN HB2.out _).size)); have HC4 := Lib.hid (hc4.imp_right (Nat.le_trans (pw_below_drewN HB2.out _).size)); have HV4 := Lib.hid hv4; obtain ⟨A4, c4, hb4, _⟩ := hv4.blk; clear hv4 hf4 ha4 hc4; have HG4 := Lib.hid hg4; have HB4 := Lib.hid hb4; obtain ⟨q0, q1, q2, q3, q4, q5, q6, q7⟩ := cells8 HG4.out; obtain ⟨p0, p1, p2, p3, p4, p5, p6, p7⟩ := cells8 HB4.out; rw [HKK.out] at q0; rw [HME.out] at p3; clear hg4 hb4) | (go_at_call 23; refine (HFF.out _ _ _ _ _ HB4.out).mono ?_; rintro e w5 ⟨rfl, ⟨m5, rfl⟩⟩))
            go_quiet (first | (go_at_call 46; exact Calls.quiet_of (HFI.out _ _ _ _ _ HB4.out)) | (go_at_call 47; exact Calls.quiet_of (HNI.out _ _ _ _ _ HB4.out)))
            go_wp2_with fail
            go_ret
            exact ⟨by rw [HE.out]; rfl, by rw [HE.out, HGO.out]; exact ⟨_, _, HV4.out.below (pw_below_drewN (pw_below_drewN (Below.refl _ _) _) _), HF4.out.below (pw_below_drewN (pw_below_drewN (Below.refl _ _) _) _), by first | exact HA4.out | exact .inl rfl, by first | exact HC4.out | exact .inl rfl⟩⟩
          | true =>
            have HGO := Lib.hid (got2 (t := t) (fr := fr) HKK.out HFBe.out)
            obtain ⟨x, hx⟩ : ∃ x : Nat, fr = (x : Int) := ⟨fr.toNat, by have := HOB.out.1; omega⟩
            have hxl : x < t.acked.length := by
              rw [HOt.out.alen]
              have e1 : t.many = s.many := by rw [HTT.out]; rfl
              have := HOB.out
              omega
            have hx5 : x ≤ 1000000 := by have := HOt.out.alen; have := HOt.out.many; omega
            subst hx
            have HV0 := Lib.hid (show 0 ≤ t.acked.getD x 0 ∧ t.acked.getD x 0 ≤ 96 by
              rw [List.getD_eq_getElem?_getD, List.getElem?_eq_getElem hxl]; exact HOt.out.ack _ (List.getElem_mem hxl))
            have HIM := Lib.hid (imax_range HV0.out ⟨HF0.out.2.2.2.2.2.2.2.1, HF0.out.2.2.2.2.2.2.2.2.1⟩)
            have HOK := Lib.hid (okv_ack HOt.out x _ HIM.out)
            go_enter Try.func18, Try.ntmps18
            go_wp2_with (first | (go_at_call 44; refine (HOT.out _ (below_alloc (Below.refl _ _) _)).mono ?_; rintro e w1 ⟨rfl, rfl⟩) | (go_at_call 45; refine (HRT.out _ (below_alloc (Below.refl _ _) _)).mono ?_; rintro e w2 ⟨rfl, hb2⟩; have HB2 := Lib.hid (below_step (below_alloc (Below.refl _ _) _) hb2); have HG2 := Lib.hid (blk_below (blk_new W (Obj.cells #[Value.int .i64 l.kind, Value.int .i64 l.view, Value.int .i64 l.normal, Value.int .i64 l.len, Value.int .i64 l.stays, Value.slice A l.log.length c, Value.int .i64 l.num, Value.string l.text] 33)) hb2); have j0 := pw_cell_below HB2.out i0; have g1 := (cells8 HG2.out).2.1; clear hb2))
            go_quiet (fail)
            go_wp2_with (first | (go_at_call 36; refine (HT.out _ (pw_below_drewN HB2.out _)).mono ?_; rintro e w4 ⟨rfl, am4, cm4, hv4, hf4, ha4, hc4⟩; rw [← HTT.out] at hv4; have hg4 := fr_block hf4 (blk_drewN HG2.out _) (by omega) (by omega) (by omega); have HR4 := Lib.hid ((HRD.out.below (pw_below_drewN HB2.out _)).fr hf4); have HF4 := Lib.hid ((Fr.of_below (p := p) (am := am) (cm := cm) (pw_below_drewN HB2.out _)).trans hf4 (.inl rfl) (.inl rfl)); have HA4 := Lib.hid (ha4.imp_right (Nat.le_trans (pw_below_drewN HB2.out _).size)); have HC4 := Lib.hid (hc4.imp_right (Nat.le_trans (pw_below_drewN HB2.out _).size)); have HV4 := Lib.hid hv4; obtain ⟨A4, c4, hb4, _⟩ := hv4.blk; clear hv4 hf4 ha4 hc4; have HG4 := Lib.hid hg4; have HB4 := Lib.hid hb4; obtain ⟨q0, q1, q2, q3, q4, q5, q6, q7⟩ := cells8 HG4.out; obtain ⟨p0, p1, p2, p3, p4, p5, p6, p7⟩ := cells8 HB4.out; rw [HKK.out] at q0; rw [HME.out] at p3; clear hg4 hb4) | (go_at_call 23; refine (HFF.out _ _ _ _ _ HB4.out).mono ?_; rintro e w5 ⟨rfl, ⟨m5, rfl⟩⟩))
            generalize hw5 : w4.drewN _ = w5
            have hb5 : Below w4.heap.size w4 w5 := by rw [← hw5]; exact pw_below_drewN (Below.refl _ _) _
            have HV5 := Lib.hid (HV4.out.below (below_drew1 hb5))
            have HF5 := Lib.hid (HF4.out.below (below_drew1 hb5))
            obtain ⟨n5, D5, hA5, _⟩ := HV5.out.ack
            have hlk := ack_look hA5 x hxl hx5
            have r6 := pw_cell_below hb5 p6
            have r3 := pw_cell_below hb5 q3
            obtain ⟨w6, hup, hv6, hf6⟩ := ack_put HV5.out HOt.out x hxl _ (wf_96 HIM.out)
            have HV6 := Lib.hid hv6
            have HF6 := Lib.hid (HF5.out.trans hf6 HA4.out HC4.out)
            have HGO2 := Lib.hid (show t.got (x : Int) l = V.reckon { t with acked := t.acked.set x (imax (t.acked.getD x 0) l.len) } from HGO.out)
            clear hv6 hf6 hA5 p0 p1 p2 p3 p4 p5 p6 p7 q0 q1 q2 q3 q4 q5 q6 q7 hw5 hb5
            rw [imax_is] at hup
            obtain ⟨v0, hv0⟩ : ∃ v0, t.acked.getD x 0 = v0 := ⟨_, rfl⟩
            rw [hv0] at hup hlk
            clear hv0
            go_region
            all_goals
              go_wp2_with (go_at_call 39; refine (reckon_calls HV6.out HOK.out).mono ?_; rintro e w7 ⟨rfl, hv7, hf7⟩; have HV7 := Lib.hid hv7; have HF7 := Lib.hid (HF6.out.trans hf7 HA4.out HC4.out); clear hv7 hf7)
              go_ret
              exact ⟨by rw [HE.out]; rfl, by rw [HE.out, HGO2.out]; exact ⟨_, _, HV7.out, HF7.out, HA4.out, HC4.out⟩⟩
        · by_cases hff : fi = me
          · have hfe : (fi == me) = true := by rw [hff]; exact beq_self_eq_true me
            cases no with
            | true =>
              have HGO := Lib.hid (got3n (t := t) (fr := fr) HKK.out (by rw [HNOe.out]; simp))
              go_enter Try.func18, Try.ntmps18
              go_wp2_with (first | (go_at_call 44; refine (HOT.out _ (below_alloc (Below.refl _ _) _)).mono ?_; rintro e w1 ⟨rfl, rfl⟩) | (go_at_call 45; refine (HRT.out _ (below_alloc (Below.refl _ _) _)).mono ?_; rintro e w2 ⟨rfl, hb2⟩; have HB2 := Lib.hid (below_step (below_alloc (Below.refl _ _) _) hb2); have HG2 := Lib.hid (blk_below (blk_new W (Obj.cells #[Value.int .i64 l.kind, Value.int .i64 l.view, Value.int .i64 l.normal, Value.int .i64 l.len, Value.int .i64 l.stays, Value.slice A l.log.length c, Value.int .i64 l.num, Value.string l.text] 33)) hb2); have j0 := pw_cell_below HB2.out i0; have g1 := (cells8 HG2.out).2.1; clear hb2))
              go_quiet (fail)
              go_wp2_with (first | (go_at_call 36; refine (HT.out _ (pw_below_drewN HB2.out _)).mono ?_; rintro e w4 ⟨rfl, am4, cm4, hv4, hf4, ha4, hc4⟩; rw [← HTT.out] at hv4; have hg4 := fr_block hf4 (blk_drewN HG2.out _) (by omega) (by omega) (by omega); have HR4 := Lib.hid ((HRD.out.below (pw_below_drewN HB2.out _)).fr hf4); have HF4 := Lib.hid ((Fr.of_below (p := p) (am := am) (cm := cm) (pw_below_drewN HB2.out _)).trans hf4 (.inl rfl) (.inl rfl)); have HA4 := Lib.hid (ha4.imp_right (Nat.le_trans (pw_below_drewN HB2.out _).size)); have HC4 := Lib.hid (hc4.imp_right (Nat.le_trans (pw_below_drewN HB2.out _).size)); have HV4 := Lib.hid hv4; obtain ⟨A4, c4, hb4, _⟩ := hv4.blk; clear hv4 hf4 ha4 hc4; have HG4 := Lib.hid hg4; have HB4 := Lib.hid hb4; obtain ⟨q0, q1, q2, q3, q4, q5, q6, q7⟩ := cells8 HG4.out; obtain ⟨p0, p1, p2, p3, p4, p5, p6, p7⟩ := cells8 HB4.out; rw [HKK.out] at q0; rw [HME.out] at p3; clear hg4 hb4))
              go_quiet (first | (go_at_call 46; exact Calls.quiet_of (HFI.out _ _ _ _ _ HB4.out)) | (go_at_call 47; exact Calls.quiet_of (HNI.out _ _ _ _ _ HB4.out)))
              go_wp2_with fail
              go_ret
              exact ⟨by rw [HE.out]; rfl, by rw [HE.out, HGO.out]; exact ⟨_, _, HV4.out.below (pw_below_drewN (Below.refl _ _) _), HF4.out.below (pw_below_drewN (Below.refl _ _) _), by first | exact HA4.out | exact .inl rfl, by first | exact HC4.out | exact .inl rfl⟩⟩
            | false =>
              have HGO := Lib.hid (got3 (t := t) (fr := fr) HKK.out (by rw [HFIe.out, HME.out]; exact hfe) HNOe.out)
              obtain ⟨x, hx⟩ : ∃ x : Nat, fr = (x : Int) := ⟨fr.toNat, by have := HOB.out.1; omega⟩
              have hxl : x < t.changes.length := by
                rw [HOt.out.clen]
                have e1 : t.many = s.many := by rw [HTT.out]; rfl
                have := HOB.out
                omega
              subst hx
              have HNB := Lib.hid (show 0 ≤ l.normal ∧ l.normal ≤ 281474976710656 by have := HF0.out; omega)
              have HOK := Lib.hid (okv_chg HOt.out x l.normal l.log HNB.out HF0.out.2.2.2.2.2.2.1)
              have hll := rightL_len HF0.out.2.2.2.2.2.2.1
              go_enter Try.func18, Try.ntmps18
              go_wp2_with (first | (go_at_call 44; refine (HOT.out _ (below_alloc (Below.refl _ _) _)).mono ?_; rintro e w1 ⟨rfl, rfl⟩) | (go_at_call 45; refine (HRT.out _ (below_alloc (Below.refl _ _) _)).mono ?_; rintro e w2 ⟨rfl, hb2⟩; have HB2 := Lib.hid (below_step (below_alloc (Below.refl _ _) _) hb2); have HG2 := Lib.hid (blk_below (blk_new W (Obj.cells #[Value.int .i64 l.kind, Value.int .i64 l.view, Value.int .i64 l.normal, Value.int .i64 l.len, Value.int .i64 l.stays, Value.slice A l.log.length c, Value.int .i64 l.num, Value.string l.text] 33)) hb2); have j0 := pw_cell_below HB2.out i0; have g1 := (cells8 HG2.out).2.1; clear hb2))
              go_quiet (fail)
              go_wp2_with (first | (go_at_call 36; refine (HT.out _ (pw_below_drewN HB2.out _)).mono ?_; rintro e w4 ⟨rfl, am4, cm4, hv4, hf4, ha4, hc4⟩; rw [← HTT.out] at hv4; have hg4 := fr_block hf4 (blk_drewN HG2.out _) (by omega) (by omega) (by omega); have HR4 := Lib.hid ((HRD.out.below (pw_below_drewN HB2.out _)).fr hf4); have HF4 := Lib.hid ((Fr.of_below (p := p) (am := am) (cm := cm) (pw_below_drewN HB2.out _)).trans hf4 (.inl rfl) (.inl rfl)); have HA4 := Lib.hid (ha4.imp_right (Nat.le_trans (pw_below_drewN HB2.out _).size)); have HC4 := Lib.hid (hc4.imp_right (Nat.le_trans (pw_below_drewN HB2.out _).size)); have HV4 := Lib.hid hv4; obtain ⟨A4, c4, hb4, _⟩ := hv4.blk; clear hv4 hf4 ha4 hc4; have HG4 := Lib.hid hg4; have HB4 := Lib.hid hb4; obtain ⟨q0, q1, q2, q3, q4, q5, q6, q7⟩ := cells8 HG4.out; obtain ⟨p0, p1, p2, p3, p4, p5, p6, p7⟩ := cells8 HB4.out; rw [HKK.out] at q0; rw [HME.out] at p3; clear hg4 hb4))
              go_quiet (first | (go_at_call 46; exact Calls.quiet_of (HFI.out _ _ _ _ _ HB4.out)) | (go_at_call 47; exact Calls.quiet_of (HNI.out _ _ _ _ _ HB4.out)))
              generalize hw5 : w4.drewN _ = w5
              have hb5 : Below w4.heap.size w4 w5 := by rw [← hw5]; exact pw_below_drewN (Below.refl _ _) _
              have HV5 := Lib.hid (HV4.out.below hb5)
              have HF5 := Lib.hid (HF4.out.below hb5)
              have HGO2 := Lib.hid (show t.got (x : Int) l = V.count { t with changes := t.changes.set x (some (l.normal, l.log)) } from HGO.out)
              have HCL := Lib.hid (fun w (hw : Below w5.heap.size w5 w) => clone_calls A c l.log w (Kd.C_below (HR4.out.below hb5).1 hw) (by omega))
              have r7 := pw_cell_below hb5 p7
              have s2 := pw_cell_below hb5 q2
              have s5 := pw_cell_below hb5 q5
              clear p0 p1 p2 p3 p4 p5 p6 p7 q0 q1 q2 q3 q4 q5 q6 q7 hw5 hb5
              go_wp2_with fail
              go_region_with (go_at_call 35; refine (HCL.out _ ?_).mono ?_; (first | exact below_drew1 (Below.refl _ _) | exact Below.refl _ _); rintro e w9 ⟨v9, rfl, hR9, hb8⟩; have hb9 : Below w5.heap.size w5 w9 := (by first | exact below_step (below_drew1 (Below.refl _ _)) hb8 | exact hb8); obtain ⟨A5, c5, rfl, _, _⟩ := Kd.R_reads hR9; have z7 := pw_cell_below (w := w5) hb9 r7; have z2 := pw_cell_below (w := w5) hb9 s2; obtain ⟨w6, hup, hv6, hf6⟩ := chg_put (HV5.out.below hb9) HOt.out x hxl l.normal l.log A5 c5 (rd_of_R hR9); have HV6 := Lib.hid hv6; have HF6 := Lib.hid ((HF5.out.below hb9).trans hf6 HA4.out HC4.out); clear hb9 hb8 hR9 hv6 hf6)
              all_goals
                go_wp2_with (go_at_call 42; refine (count_calls HV6.out HOK.out).mono ?_; rintro e w7 ⟨rfl, hv7, hf7⟩; have HV7 := Lib.hid hv7; have HF7 := Lib.hid (HF6.out.trans hf7 HA4.out HC4.out); clear hv7 hf7)
                go_ret
                exact ⟨by rw [HE.out]; rfl, by rw [HE.out, HGO2.out]; exact ⟨_, _, HV7.out, HF7.out, HA4.out, HC4.out⟩⟩
          · have hfe : (fi == me) = false := beq_eq_false_iff_ne.2 hff
            have HGO := Lib.hid (got3n (t := t) (fr := fr) HKK.out (by rw [HFIe.out, HME.out, hfe]; rfl))
            go_enter Try.func18, Try.ntmps18
            go_wp2_with (first | (go_at_call 44; refine (HOT.out _ (below_alloc (Below.refl _ _) _)).mono ?_; rintro e w1 ⟨rfl, rfl⟩) | (go_at_call 45; refine (HRT.out _ (below_alloc (Below.refl _ _) _)).mono ?_; rintro e w2 ⟨rfl, hb2⟩; have HB2 := Lib.hid (below_step (below_alloc (Below.refl _ _) _) hb2); have HG2 := Lib.hid (blk_below (blk_new W (Obj.cells #[Value.int .i64 l.kind, Value.int .i64 l.view, Value.int .i64 l.normal, Value.int .i64 l.len, Value.int .i64 l.stays, Value.slice A l.log.length c, Value.int .i64 l.num, Value.string l.text] 33)) hb2); have j0 := pw_cell_below HB2.out i0; have g1 := (cells8 HG2.out).2.1; clear hb2))
            go_quiet (fail)
            go_wp2_with (first | (go_at_call 36; refine (HT.out _ (pw_below_drewN HB2.out _)).mono ?_; rintro e w4 ⟨rfl, am4, cm4, hv4, hf4, ha4, hc4⟩; rw [← HTT.out] at hv4; have hg4 := fr_block hf4 (blk_drewN HG2.out _) (by omega) (by omega) (by omega); have HR4 := Lib.hid ((HRD.out.below (pw_below_drewN HB2.out _)).fr hf4); have HF4 := Lib.hid ((Fr.of_below (p := p) (am := am) (cm := cm) (pw_below_drewN HB2.out _)).trans hf4 (.inl rfl) (.inl rfl)); have HA4 := Lib.hid (ha4.imp_right (Nat.le_trans (pw_below_drewN HB2.out _).size)); have HC4 := Lib.hid (hc4.imp_right (Nat.le_trans (pw_below_drewN HB2.out _).size)); have HV4 := Lib.hid hv4; obtain ⟨A4, c4, hb4, _⟩ := hv4.blk; clear hv4 hf4 ha4 hc4; have HG4 := Lib.hid hg4; have HB4 := Lib.hid hb4; obtain ⟨q0, q1, q2, q3, q4, q5, q6, q7⟩ := cells8 HG4.out; obtain ⟨p0, p1, p2, p3, p4, p5, p6, p7⟩ := cells8 HB4.out; rw [HKK.out] at q0; rw [HME.out] at p3; clear hg4 hb4))
            go_quiet (first | (go_at_call 46; exact Calls.quiet_of (HFI.out _ _ _ _ _ HB4.out)) | (go_at_call 47; exact Calls.quiet_of (HNI.out _ _ _ _ _ HB4.out)))
            go_wp2_with fail
            go_ret
            exact ⟨by rw [HE.out]; rfl, by rw [HE.out, HGO.out]; exact ⟨_, _, HV4.out.below (pw_below_drewN (Below.refl _ _) _), HF4.out.below (pw_below_drewN (Below.refl _ _) _), by first | exact HA4.out | exact .inl rfl, by first | exact HC4.out | exact .inl rfl⟩⟩
      · obtain ⟨t, ht⟩ : ∃ t, t = s := ⟨_, rfl⟩
        have HE := Lib.hid (show s.take fr l = (t.got fr l, true) from HE0.out.trans (by rw [if_neg hv, ht]))
        have HTT := Lib.hid ht
        clear ht
        have HOt := Lib.hid (show OkV t by rw [HTT.out]; exact HO.out)
        have HFI := Lib.hid (fun (W' : World) (A : Option Addr) (c am cm : Nat) (hb : Blk W' p am cm A c t) => first_calls hb HOt.out)
        have HNI := Lib.hid (fun (W' : World) (A : Option Addr) (c am cm : Nat) (hb : Blk W' p am cm A c t) => normal_calls hb)
        have HFF := Lib.hid (fun (W' : World) (A : Option Addr) (c am cm : Nat) (hb : Blk W' p am cm A c t) => First_calls hb HOt.out)
        obtain ⟨hbd1, hbd2, hbd3⟩ := HBD.out
        have hkk0 := HF0.out.2.2.2.2.1
        have hkk1 := HF0.out.2.2.2.2.2.1
        obtain ⟨me, hme⟩ : ∃ me, t.me = me := ⟨_, rfl⟩
        obtain ⟨fi, hfi⟩ : ∃ fi, t.first = fi := ⟨_, rfl⟩
        obtain ⟨fb, hfb⟩ : ∃ fb, t.firstB = fb := ⟨_, rfl⟩
        obtain ⟨no, hno⟩ : ∃ no, t.normalB = no := ⟨_, rfl⟩
        rw [hfi] at HFI
        rw [hfb] at HFF
        rw [hno] at HNI
        have HME := Lib.hid hme
        have HFIe := Lib.hid hfi
        have HFBe := Lib.hid hfb
        have HNOe := Lib.hid hno
        clear hme hfi hfb hno
        rcases (show l.kind = 1 ∨ l.kind = 2 ∨ l.kind = 3 by omega) with hkk | hkk | hkk
        all_goals have HKK := Lib.hid hkk
        all_goals clear hkk hkk0 hkk1
        · by_cases hff : fr = fi
          · subst hff
            have hll := rightL_len HF0.out.2.2.2.2.2.2.1
            have hfe : (fr == fr) = true := beq_self_eq_true fr
            cases no with
            | false =>
              have HGO := Lib.hid (show t.got fr l = { ({ t with log := l.log, normal := t.view } : V) with stays := imax t.stays (imin l.stays l.log.length) } from (got1 HKK.out HFIe.out.symm).trans (by rw [HNOe.out]; rfl))
              go_enter Try.func18, Try.ntmps18
              go_wp2_with (first | (go_at_call 44; refine (HOT.out _ (below_alloc (Below.refl _ _) _)).mono ?_; rintro e w1 ⟨rfl, rfl⟩) | (go_at_call 45; refine (HRT.out _ (below_alloc (Below.refl _ _) _)).mono ?_; rintro e w2 ⟨rfl, hb2⟩; have HB2 := Lib.hid (below_step (below_alloc (Below.refl _ _) _) hb2); have HG2 := Lib.hid (blk_below (blk_new W (Obj.cells #[Value.int .i64 l.kind, Value.int .i64 l.view, Value.int .i64 l.normal, Value.int .i64 l.len, Value.int .i64 l.stays, Value.slice A l.log.length c, Value.int .i64 l.num, Value.string l.text] 33)) hb2); have j0 := pw_cell_below HB2.out i0; have g1 := (cells8 HG2.out).2.1; clear hb2))
              go_quiet (fail)
              generalize hw4 : w2.drewN _ = w4
              have hb3 : Below W.heap.size W w4 := by rw [← hw4]; exact pw_below_drewN HB2.out _
              have hg4 : w4.heap[W.heap.size]? = some (Obj.cells #[Value.int .i64 l.kind, Value.int .i64 l.view, Value.int .i64 l.normal, Value.int .i64 l.len, Value.int .i64 l.stays, Value.slice A l.log.length c, Value.int .i64 l.num, Value.string l.text] 33) := by rw [← hw4]; exact blk_drewN HG2.out _
              have HV4 := Lib.hid (show VRep w4 p am cm t by rw [HTT.out]; exact HH.out.below hb3)
              have HF4 := Lib.hid (Fr.of_below (p := p) (am := am) (cm := cm) hb3)
              have HR4 := Lib.hid (HRD.out.below hb3)
              have HA4 : Hid (∀ k : Nat, k = k ∨ W.heap.size ≤ k) := Lib.hid (fun _ => .inl rfl)
              obtain ⟨A4, c4, hb4, _⟩ := HV4.out.blk
              clear hw4 hb3 j0 g1
              have HG4 := Lib.hid hg4
              have HB4 := Lib.hid hb4
              obtain ⟨q0, q1, q2, q3, q4, q5, q6, q7⟩ := cells8 HG4.out
              obtain ⟨p0, p1, p2, p3, p4, p5, p6, p7⟩ := cells8 HB4.out
              rw [HKK.out] at q0
              rw [HME.out] at p3
              clear hg4 hb4
              go_wp2_with (first | (go_at_call 46; refine (HFI.out _ _ _ _ _ HB4.out).mono ?_; rintro e w5a ⟨rfl, ⟨m5, hm5⟩⟩; have hb5a : Below w4.heap.size w4 w5a := (by rw [hm5]; exact pw_below_drewN (Below.refl _ _) _); have HB45 := Lib.hid hb5a; have HB5a := Lib.hid (blk_below HB4.out hb5a); have x2 := pw_cell_below hb5a p2; have x5 := pw_cell_below hb5a q5; clear hm5 hb5a))
              go_quiet ((go_at_call 47; exact Calls.quiet_of (HNI.out _ _ _ _ _ HB5a.out)))
              generalize hw5 : w5a.drewN _ = w5
              have hb5 : Below w4.heap.size w4 w5 := by rw [← hw5]; exact pw_below_drewN HB45.out _
              have HV5 := Lib.hid (HV4.out.below hb5)
              have HF5 := Lib.hid (HF4.out.below hb5)
              have HG5 := Lib.hid (blk_below HG4.out hb5)
              have HB5 := Lib.hid (blk_below HB4.out hb5)
              have HCL := Lib.hid (fun w (hw : Below w5.heap.size w5 w) => clone_calls A c l.log w (Kd.C_below (HR4.out.below hb5).1 hw) (by omega))
              have r0 := pw_cell_below hb5 p0
              have r1 := pw_cell_below hb5 p1
              have r2 := pw_cell_below hb5 p2
              have s5 := pw_cell_below hb5 q5
              clear p0 p1 p2 p3 p4 p5 p6 p7 q0 q1 q2 q3 q4 q5 q6 q7 hw5 hb5 x2 x5
              go_wp2_with fail
              go_region_with (go_at_call 35; refine (HCL.out _ ?_).mono ?_; (first | exact below_drew1 (Below.refl _ _) | exact Below.refl _ _); rintro e w9 ⟨v9, rfl, hR9, hb8⟩; have hb9 : Below w5.heap.size w5 w9 := (by first | exact below_step (below_drew1 (Below.refl _ _)) hb8 | exact hb8); have HR9 := Lib.hid (rd_of_R hR9); have hN9 := R_fresh hR9; obtain ⟨A5, c5, rfl, _, _⟩ := Kd.R_reads hR9; have HN9 := Lib.hid hN9; clear hN9; have HB9 := Lib.hid hb9; have z0 := pw_cell_below (w := w5) hb9 r0; have z1 := pw_cell_below (w := w5) hb9 r1; have z2 := pw_cell_below (w := w5) hb9 r2; have zf1 := blk_frozen (blk_below (w := w5) HB5.out hb9) 1; have zf2 := blk_frozen (blk_below (w := w5) HB5.out hb9) 2; clear hb9 hb8 hR9)
              all_goals
                have HVF := Lib.hid (adopt_put HV5.out HOt.out HB9.out HR9.out HF0.out.2.2.2.2.2.2.1)
                have HFF := Lib.hid (set_fr (set_fr2 (HF5.out.below HB9.out) (.slice A5 l.log.length c5) (fun _ k hk => Nat.le_trans HF5.out.size (HN9.out k hk))) 1 (.int .i64 t.view))
                have HGF := Lib.hid (blk_far (blk_far (blk_below HG5.out HB9.out) (p := ⟨p, 2, none⟩) (by show W.heap.size ≠ p; omega) (.slice A5 l.log.length c5)) (p := ⟨p, 1, none⟩) (by show W.heap.size ≠ p; omega) (.int .i64 t.view))
                clear z0 z1 z2 zf1 zf2 r0 r1 r2 s5 HR9
                generalize (w9.setCell ⟨p, 2, none⟩ (.slice A5 l.log.length c5)).setCell ⟨p, 1, none⟩ (.int .i64 t.view) = w6 at HVF HFF HGF ⊢
                have HV6 := Lib.hid HVF.out.1
                have HF6 := Lib.hid HFF.out
                have HG6 := Lib.hid HGF.out
                obtain ⟨u, hu⟩ : ∃ u : V, { t with log := l.log, normal := t.view } = u := ⟨_, rfl⟩
                rw [hu] at HV6
                have HGO3 := Lib.hid (show t.got fr l = { u with stays := imax u.stays (imin l.stays u.log.length) } by rw [← hu]; exact HGO.out)
                clear hu HVF HFF HGF
                obtain ⟨A6, c6, hb6, hl6⟩ := HV6.out.blk
                have e2 := (cells8 hb6).2.2.1
                have e5 := (cells8 hb6).2.2.2.2.2.1
                have e4 := (cells8 HG6.out).2.2.2.2.1
                have f5 := blk_frozen hb6 5
                have HB6 := Lib.hid hb6
                have HL6 := Lib.hid hl6
                clear hb6 hl6
                go_wp2_with fail
                go_region
                all_goals
                  go_wp2_with fail
                  go_ret
                  have hput := (HV6.out.below (below_drew1 (Below.refl _ _))).put (s' := { u with stays := max u.stays (min l.stays (u.log.length : Int)) }) 5 (.int .i64 (max u.stays (min l.stays (u.log.length : Int)))) (blk_put (blk_drew HB6.out) 5 _ rfl) (HL6.out.below (below_drew1 (Below.refl _ _))) rfl rfl
                  exact ⟨by rw [HE.out]; rfl, by rw [HE.out, HGO3.out, imax_is, imin_is]; exact ⟨_, _, hput, set_fr (HF6.out.below (below_drew1 (Below.refl _ _))) 5 _, (.inl rfl), (.inl rfl)⟩⟩
            | true =>
              by_cases hlc : (l.log.length : Int) ≥ (t.log.length : Int)
              · have HGO := Lib.hid (show t.got fr l = { ({ t with log := l.log, normal := t.view } : V) with stays := imax t.stays (imin l.stays l.log.length) } from (got1 HKK.out HFIe.out.symm).trans (by rw [HNOe.out, show decide (t.log.length ≤ l.log.length) = true from decide_eq_true (by omega)]; rfl))
                go_enter Try.func18, Try.ntmps18
                go_wp2_with (first | (go_at_call 44; refine (HOT.out _ (below_alloc (Below.refl _ _) _)).mono ?_; rintro e w1 ⟨rfl, rfl⟩) | (go_at_call 45; refine (HRT.out _ (below_alloc (Below.refl _ _) _)).mono ?_; rintro e w2 ⟨rfl, hb2⟩; have HB2 := Lib.hid (below_step (below_alloc (Below.refl _ _) _) hb2); have HG2 := Lib.hid (blk_below (blk_new W (Obj.cells #[Value.int .i64 l.kind, Value.int .i64 l.view, Value.int .i64 l.normal, Value.int .i64 l.len, Value.int .i64 l.stays, Value.slice A l.log.length c, Value.int .i64 l.num, Value.string l.text] 33)) hb2); have j0 := pw_cell_below HB2.out i0; have g1 := (cells8 HG2.out).2.1; clear hb2))
                go_quiet (fail)
                generalize hw4 : w2.drewN _ = w4
                have hb3 : Below W.heap.size W w4 := by rw [← hw4]; exact pw_below_drewN HB2.out _
                have hg4 : w4.heap[W.heap.size]? = some (Obj.cells #[Value.int .i64 l.kind, Value.int .i64 l.view, Value.int .i64 l.normal, Value.int .i64 l.len, Value.int .i64 l.stays, Value.slice A l.log.length c, Value.int .i64 l.num, Value.string l.text] 33) := by rw [← hw4]; exact blk_drewN HG2.out _
                have HV4 := Lib.hid (show VRep w4 p am cm t by rw [HTT.out]; exact HH.out.below hb3)
                have HF4 := Lib.hid (Fr.of_below (p := p) (am := am) (cm := cm) hb3)
                have HR4 := Lib.hid (HRD.out.below hb3)
                have HA4 : Hid (∀ k : Nat, k = k ∨ W.heap.size ≤ k) := Lib.hid (fun _ => .inl rfl)
                obtain ⟨A4, c4, hb4, _⟩ := HV4.out.blk
                clear hw4 hb3 j0 g1
                have HG4 := Lib.hid hg4
                have HB4 := Lib.hid hb4
                obtain ⟨q0, q1, q2, q3, q4, q5, q6, q7⟩ := cells8 HG4.out
                obtain ⟨p0, p1, p2, p3, p4, p5, p6, p7⟩ := cells8 HB4.out
                rw [HKK.out] at q0
                rw [HME.out] at p3
                clear hg4 hb4
                go_wp2_with (first | (go_at_call 46; refine (HFI.out _ _ _ _ _ HB4.out).mono ?_; rintro e w5a ⟨rfl, ⟨m5, hm5⟩⟩; have hb5a : Below w4.heap.size w4 w5a := (by rw [hm5]; exact pw_below_drewN (Below.refl _ _) _); have HB45 := Lib.hid hb5a; have HB5a := Lib.hid (blk_below HB4.out hb5a); have x2 := pw_cell_below hb5a p2; have x5 := pw_cell_below hb5a q5; clear hm5 hb5a))
                go_quiet ((go_at_call 47; exact Calls.quiet_of (HNI.out _ _ _ _ _ HB5a.out)))
                generalize hw5 : w5a.drewN _ = w5
                have hb5 : Below w4.heap.size w4 w5 := by rw [← hw5]; exact pw_below_drewN HB45.out _
                have HV5 := Lib.hid (HV4.out.below hb5)
                have HF5 := Lib.hid (HF4.out.below hb5)
                have HG5 := Lib.hid (blk_below HG4.out hb5)
                have HB5 := Lib.hid (blk_below HB4.out hb5)
                have HCL := Lib.hid (fun w (hw : Below w5.heap.size w5 w) => clone_calls A c l.log w (Kd.C_below (HR4.out.below hb5).1 hw) (by omega))
                have r0 := pw_cell_below hb5 p0
                have r1 := pw_cell_below hb5 p1
                have r2 := pw_cell_below hb5 p2
                have s5 := pw_cell_below hb5 q5
                clear p0 p1 p2 p3 p4 p5 p6 p7 q0 q1 q2 q3 q4 q5 q6 q7 hw5 hb5 x2 x5
                go_wp2_with fail
                go_region_with (go_at_call 35; refine (HCL.out _ ?_).mono ?_; (first | exact below_drew1 (Below.refl _ _) | exact Below.refl _ _); rintro e w9 ⟨v9, rfl, hR9, hb8⟩; have hb9 : Below w5.heap.size w5 w9 := (by first | exact below_step (below_drew1 (Below.refl _ _)) hb8 | exact hb8); have HR9 := Lib.hid (rd_of_R hR9); have hN9 := R_fresh hR9; obtain ⟨A5, c5, rfl, _, _⟩ := Kd.R_reads hR9; have HN9 := Lib.hid hN9; clear hN9; have HB9 := Lib.hid hb9; have z0 := pw_cell_below (w := w5) hb9 r0; have z1 := pw_cell_below (w := w5) hb9 r1; have z2 := pw_cell_below (w := w5) hb9 r2; have zf1 := blk_frozen (blk_below (w := w5) HB5.out hb9) 1; have zf2 := blk_frozen (blk_below (w := w5) HB5.out hb9) 2; clear hb9 hb8 hR9)
                all_goals
                  have HVF := Lib.hid (adopt_put HV5.out HOt.out HB9.out HR9.out HF0.out.2.2.2.2.2.2.1)
                  have HFF := Lib.hid (set_fr (set_fr2 (HF5.out.below HB9.out) (.slice A5 l.log.length c5) (fun _ k hk => Nat.le_trans HF5.out.size (HN9.out k hk))) 1 (.int .i64 t.view))
                  have HGF := Lib.hid (blk_far (blk_far (blk_below HG5.out HB9.out) (p := ⟨p, 2, none⟩) (by show W.heap.size ≠ p; omega) (.slice A5 l.log.length c5)) (p := ⟨p, 1, none⟩) (by show W.heap.size ≠ p; omega) (.int .i64 t.view))
                  clear z0 z1 z2 zf1 zf2 r0 r1 r2 s5 HR9
                  generalize (w9.setCell ⟨p, 2, none⟩ (.slice A5 l.log.length c5)).setCell ⟨p, 1, none⟩ (.int .i64 t.view) = w6 at HVF HFF HGF ⊢
                  have HV6 := Lib.hid HVF.out.1
                  have HF6 := Lib.hid HFF.out
                  have HG6 := Lib.hid HGF.out
                  obtain ⟨u, hu⟩ : ∃ u : V, { t with log := l.log, normal := t.view } = u := ⟨_, rfl⟩
                  rw [hu] at HV6
                  have HGO3 := Lib.hid (show t.got fr l = { u with stays := imax u.stays (imin l.stays u.log.length) } by rw [← hu]; exact HGO.out)
                  clear hu HVF HFF HGF
                  obtain ⟨A6, c6, hb6, hl6⟩ := HV6.out.blk
                  have e2 := (cells8 hb6).2.2.1
                  have e5 := (cells8 hb6).2.2.2.2.2.1
                  have e4 := (cells8 HG6.out).2.2.2.2.1
                  have f5 := blk_frozen hb6 5
                  have HB6 := Lib.hid hb6
                  have HL6 := Lib.hid hl6
                  clear hb6 hl6
                  go_wp2_with fail
                  go_region
                  all_goals
                    go_wp2_with fail
                    go_ret
                    have hput := (HV6.out.below (below_drew1 (Below.refl _ _))).put (s' := { u with stays := max u.stays (min l.stays (u.log.length : Int)) }) 5 (.int .i64 (max u.stays (min l.stays (u.log.length : Int)))) (blk_put (blk_drew HB6.out) 5 _ rfl) (HL6.out.below (below_drew1 (Below.refl _ _))) rfl rfl
                    exact ⟨by rw [HE.out]; rfl, by rw [HE.out, HGO3.out, imax_is, imin_is]; exact ⟨_, _, hput, set_fr (HF6.out.below (below_drew1 (Below.refl _ _))) 5 _, (.inl rfl), (.inl rfl)⟩⟩
              · have HGO := Lib.hid (show t.got fr l = { t with stays := imax t.stays (imin l.stays t.log.length) } from (got1 HKK.out HFIe.out.symm).trans (by rw [HNOe.out, show decide (t.log.length ≤ l.log.length) = false from decide_eq_false (by omega)]; rfl))
                go_enter Try.func18, Try.ntmps18
                go_wp2_with (first | (go_at_call 44; refine (HOT.out _ (below_alloc (Below.refl _ _) _)).mono ?_; rintro e w1 ⟨rfl, rfl⟩) | (go_at_call 45; refine (HRT.out _ (below_alloc (Below.refl _ _) _)).mono ?_; rintro e w2 ⟨rfl, hb2⟩; have HB2 := Lib.hid (below_step (below_alloc (Below.refl _ _) _) hb2); have HG2 := Lib.hid (blk_below (blk_new W (Obj.cells #[Value.int .i64 l.kind, Value.int .i64 l.view, Value.int .i64 l.normal, Value.int .i64 l.len, Value.int .i64 l.stays, Value.slice A l.log.length c, Value.int .i64 l.num, Value.string l.text] 33)) hb2); have j0 := pw_cell_below HB2.out i0; have g1 := (cells8 HG2.out).2.1; clear hb2))
                go_quiet (fail)
                generalize hw4 : w2.drewN _ = w4
                have hb3 : Below W.heap.size W w4 := by rw [← hw4]; exact pw_below_drewN HB2.out _
                have hg4 : w4.heap[W.heap.size]? = some (Obj.cells #[Value.int .i64 l.kind, Value.int .i64 l.view, Value.int .i64 l.normal, Value.int .i64 l.len, Value.int .i64 l.stays, Value.slice A l.log.length c, Value.int .i64 l.num, Value.string l.text] 33) := by rw [← hw4]; exact blk_drewN HG2.out _
                have HV4 := Lib.hid (show VRep w4 p am cm t by rw [HTT.out]; exact HH.out.below hb3)
                have HF4 := Lib.hid (Fr.of_below (p := p) (am := am) (cm := cm) hb3)
                have HR4 := Lib.hid (HRD.out.below hb3)
                have HA4 : Hid (∀ k : Nat, k = k ∨ W.heap.size ≤ k) := Lib.hid (fun _ => .inl rfl)
                obtain ⟨A4, c4, hb4, _⟩ := HV4.out.blk
                clear hw4 hb3 j0 g1
                have HG4 := Lib.hid hg4
                have HB4 := Lib.hid hb4
                obtain ⟨q0, q1, q2, q3, q4, q5, q6, q7⟩ := cells8 HG4.out
                obtain ⟨p0, p1, p2, p3, p4, p5, p6, p7⟩ := cells8 HB4.out
                rw [HKK.out] at q0
                rw [HME.out] at p3
                clear hg4 hb4
                go_wp2_with (first | (go_at_call 46; refine (HFI.out _ _ _ _ _ HB4.out).mono ?_; rintro e w5a ⟨rfl, ⟨m5, hm5⟩⟩; have hb5a : Below w4.heap.size w4 w5a := (by rw [hm5]; exact pw_below_drewN (Below.refl _ _) _); have HB45 := Lib.hid hb5a; have HB5a := Lib.hid (blk_below HB4.out hb5a); have x2 := pw_cell_below hb5a p2; have x5 := pw_cell_below hb5a q5; clear hm5 hb5a))
                go_quiet ((go_at_call 47; exact Calls.quiet_of (HNI.out _ _ _ _ _ HB5a.out)))
                generalize hw5 : w5a.drewN _ = w5
                have hb5 : Below w4.heap.size w4 w5 := by rw [← hw5]; exact pw_below_drewN HB45.out _
                have HV5 := Lib.hid (HV4.out.below hb5)
                have HF5 := Lib.hid (HF4.out.below hb5)
                have HG5 := Lib.hid (blk_below HG4.out hb5)
                have HB5 := Lib.hid (blk_below HB4.out hb5)
                have HCL := Lib.hid (fun w (hw : Below w5.heap.size w5 w) => clone_calls A c l.log w (Kd.C_below (HR4.out.below hb5).1 hw) (by omega))
                have r0 := pw_cell_below hb5 p0
                have r1 := pw_cell_below hb5 p1
                have r2 := pw_cell_below hb5 p2
                have s5 := pw_cell_below hb5 q5
                clear p0 p1 p2 p3 p4 p5 p6 p7 q0 q1 q2 q3 q4 q5 q6 q7 hw5 hb5 x2 x5
                go_wp2_with fail
                have HV6 := Lib.hid HV5.out
                have HF6 := Lib.hid HF5.out
                have HG6 := Lib.hid HG5.out
                clear r0 r1 r2 s5
                obtain ⟨u, hu⟩ : ∃ u : V, t = u := ⟨_, rfl⟩
                rw [hu] at HV6
                have HGO3 := Lib.hid (show t.got fr l = { u with stays := imax u.stays (imin l.stays u.log.length) } by rw [← hu]; exact HGO.out)
                clear hu
                generalize w5 = w6 at HV6 HF6 HG6 ⊢
                obtain ⟨A6, c6, hb6, hl6⟩ := HV6.out.blk
                have e2 := (cells8 hb6).2.2.1
                have e5 := (cells8 hb6).2.2.2.2.2.1
                have e4 := (cells8 HG6.out).2.2.2.2.1
                have f5 := blk_frozen hb6 5
                have HB6 := Lib.hid hb6
                have HL6 := Lib.hid hl6
                clear hb6 hl6
                go_region
                all_goals
                  go_wp2_with fail
                  go_ret
                  have hput := (HV6.out.below (below_drew1 (Below.refl _ _))).put (s' := { u with stays := max u.stays (min l.stays (u.log.length : Int)) }) 5 (.int .i64 (max u.stays (min l.stays (u.log.length : Int)))) (blk_put (blk_drew HB6.out) 5 _ rfl) (HL6.out.below (below_drew1 (Below.refl _ _))) rfl rfl
                  exact ⟨by rw [HE.out]; rfl, by rw [HE.out, HGO3.out, imax_is, imin_is]; exact ⟨_, _, hput, set_fr (HF6.out.below (below_drew1 (Below.refl _ _))) 5 _, (.inl rfl), (.inl rfl)⟩⟩
          · have HGO := Lib.hid (got1n (t := t) (fr := fr) HKK.out (by rw [HFIe.out]; exact beq_eq_false_iff_ne.2 hff))
            have hfe : (fr == fi) = false := beq_eq_false_iff_ne.2 hff
            go_enter Try.func18, Try.ntmps18
            go_wp2_with (first | (go_at_call 44; refine (HOT.out _ (below_alloc (Below.refl _ _) _)).mono ?_; rintro e w1 ⟨rfl, rfl⟩) | (go_at_call 45; refine (HRT.out _ (below_alloc (Below.refl _ _) _)).mono ?_; rintro e w2 ⟨rfl, hb2⟩; have HB2 := Lib.hid (below_step (below_alloc (Below.refl _ _) _) hb2); have HG2 := Lib.hid (blk_below (blk_new W (Obj.cells #[Value.int .i64 l.kind, Value.int .i64 l.view, Value.int .i64 l.normal, Value.int .i64 l.len, Value.int .i64 l.stays, Value.slice A l.log.length c, Value.int .i64 l.num, Value.string l.text] 33)) hb2); have j0 := pw_cell_below HB2.out i0; have g1 := (cells8 HG2.out).2.1; clear hb2))
            go_quiet (fail)
            generalize hw4 : w2.drewN _ = w4
            have hb3 : Below W.heap.size W w4 := by rw [← hw4]; exact pw_below_drewN HB2.out _
            have hg4 : w4.heap[W.heap.size]? = some (Obj.cells #[Value.int .i64 l.kind, Value.int .i64 l.view, Value.int .i64 l.normal, Value.int .i64 l.len, Value.int .i64 l.stays, Value.slice A l.log.length c, Value.int .i64 l.num, Value.string l.text] 33) := by rw [← hw4]; exact blk_drewN HG2.out _
            have HV4 := Lib.hid (show VRep w4 p am cm t by rw [HTT.out]; exact HH.out.below hb3)
            have HF4 := Lib.hid (Fr.of_below (p := p) (am := am) (cm := cm) hb3)
            have HR4 := Lib.hid (HRD.out.below hb3)
            have HA4 : Hid (∀ k : Nat, k = k ∨ W.heap.size ≤ k) := Lib.hid (fun _ => .inl rfl)
            obtain ⟨A4, c4, hb4, _⟩ := HV4.out.blk
            clear hw4 hb3 j0 g1
            have HG4 := Lib.hid hg4
            have HB4 := Lib.hid hb4
            obtain ⟨q0, q1, q2, q3, q4, q5, q6, q7⟩ := cells8 HG4.out
            obtain ⟨p0, p1, p2, p3, p4, p5, p6, p7⟩ := cells8 HB4.out
            rw [HKK.out] at q0
            rw [HME.out] at p3
            clear hg4 hb4
            go_wp2_with (first | (go_at_call 46; refine (HFI.out _ _ _ _ _ HB4.out).mono ?_; rintro e w5 ⟨rfl, ⟨m5, rfl⟩⟩))
            go_quiet (first | (go_at_call 46; exact Calls.quiet_of (HFI.out _ _ _ _ _ HB4.out)) | (go_at_call 47; exact Calls.quiet_of (HNI.out _ _ _ _ _ HB4.out)))
            go_wp2_with fail
            go_ret
            exact ⟨by rw [HE.out]; rfl, by rw [HE.out, HGO.out]; exact ⟨_, _, HV4.out.below (pw_below_drewN (pw_below_drewN (Below.refl _ _) _) _), HF4.out.below (pw_below_drewN (pw_below_drewN (Below.refl _ _) _) _), by first | exact HA4.out | exact .inl rfl, by first | exact HC4.out | exact .inl rfl⟩⟩
        · cases fb with
          | false =>
            have HGO := Lib.hid (got2n (t := t) (fr := fr) HKK.out HFBe.out)
            go_enter Try.func18, Try.ntmps18
            go_wp2_with (first | (go_at_call 44; refine (HOT.out _ (below_alloc (Below.refl _ _) _)).mono ?_; rintro e w1 ⟨rfl, rfl⟩) | (go_at_call 45; refine (HRT.out _ (below_alloc (Below.refl _ _) _)).mono ?_; rintro e w2 ⟨rfl, hb2⟩; have HB2 := Lib.hid (below_step (below_alloc (Below.refl _ _) _) hb2); have HG2 := Lib.hid (blk_below (blk_new W (Obj.cells #[Value.int .i64 l.kind, Value.int .i64 l.view, Value.int .i64 l.normal, Value.int .i64 l.len, Value.int .i64 l.stays, Value.slice A l.log.length c, Value.int .i64 l.num, Value.string l.text] 33)) hb2); have j0 := pw_cell_below HB2.out i0; have g1 := (cells8 HG2.out).2.1; clear hb2))
            go_quiet (fail)
            generalize hw4 : w2.drewN _ = w4
            have hb3 : Below W.heap.size W w4 := by rw [← hw4]; exact pw_below_drewN HB2.out _
            have hg4 : w4.heap[W.heap.size]? = some (Obj.cells #[Value.int .i64 l.kind, Value.int .i64 l.view, Value.int .i64 l.normal, Value.int .i64 l.len, Value.int .i64 l.stays, Value.slice A l.log.length c, Value.int .i64 l.num, Value.string l.text] 33) := by rw [← hw4]; exact blk_drewN HG2.out _
            have HV4 := Lib.hid (show VRep w4 p am cm t by rw [HTT.out]; exact HH.out.below hb3)
            have HF4 := Lib.hid (Fr.of_below (p := p) (am := am) (cm := cm) hb3)
            have HR4 := Lib.hid (HRD.out.below hb3)
            have HA4 : Hid (∀ k : Nat, k = k ∨ W.heap.size ≤ k) := Lib.hid (fun _ => .inl rfl)
            obtain ⟨A4, c4, hb4, _⟩ := HV4.out.blk
            clear hw4 hb3 j0 g1
            have HG4 := Lib.hid hg4
            have HB4 := Lib.hid hb4
            obtain ⟨q0, q1, q2, q3, q4, q5, q6, q7⟩ := cells8 HG4.out
            obtain ⟨p0, p1, p2, p3, p4, p5, p6, p7⟩ := cells8 HB4.out
            rw [HKK.out] at q0
            rw [HME.out] at p3
            clear hg4 hb4
            go_wp2_with (first | (go_at_call 23; refine (HFF.out _ _ _ _ _ HB4.out).mono ?_; rintro e w5 ⟨rfl, ⟨m5, rfl⟩⟩))
            go_quiet (first | (go_at_call 46; exact Calls.quiet_of (HFI.out _ _ _ _ _ HB4.out)) | (go_at_call 47; exact Calls.quiet_of (HNI.out _ _ _ _ _ HB4.out)))
            go_wp2_with fail
            go_ret
            exact ⟨by rw [HE.out]; rfl, by rw [HE.out, HGO.out]; exact ⟨_, _, HV4.out.below (pw_below_drewN (pw_below_drewN (Below.refl _ _) _) _), HF4.out.below (pw_below_drewN (pw_below_drewN (Below.refl _ _) _) _), by first | exact HA4.out | exact .inl rfl, by first | exact HC4.out | exact .inl rfl⟩⟩
          | true =>
            have HGO := Lib.hid (got2 (t := t) (fr := fr) HKK.out HFBe.out)
            obtain ⟨x, hx⟩ : ∃ x : Nat, fr = (x : Int) := ⟨fr.toNat, by have := HOB.out.1; omega⟩
            have hxl : x < t.acked.length := by
              rw [HOt.out.alen]
              have e1 : t.many = s.many := by rw [HTT.out]
              have := HOB.out
              omega
            have hx5 : x ≤ 1000000 := by have := HOt.out.alen; have := HOt.out.many; omega
            subst hx
            have HV0 := Lib.hid (show 0 ≤ t.acked.getD x 0 ∧ t.acked.getD x 0 ≤ 96 by
              rw [List.getD_eq_getElem?_getD, List.getElem?_eq_getElem hxl]; exact HOt.out.ack _ (List.getElem_mem hxl))
            have HIM := Lib.hid (imax_range HV0.out ⟨HF0.out.2.2.2.2.2.2.2.1, HF0.out.2.2.2.2.2.2.2.2.1⟩)
            have HOK := Lib.hid (okv_ack HOt.out x _ HIM.out)
            go_enter Try.func18, Try.ntmps18
            go_wp2_with (first | (go_at_call 44; refine (HOT.out _ (below_alloc (Below.refl _ _) _)).mono ?_; rintro e w1 ⟨rfl, rfl⟩) | (go_at_call 45; refine (HRT.out _ (below_alloc (Below.refl _ _) _)).mono ?_; rintro e w2 ⟨rfl, hb2⟩; have HB2 := Lib.hid (below_step (below_alloc (Below.refl _ _) _) hb2); have HG2 := Lib.hid (blk_below (blk_new W (Obj.cells #[Value.int .i64 l.kind, Value.int .i64 l.view, Value.int .i64 l.normal, Value.int .i64 l.len, Value.int .i64 l.stays, Value.slice A l.log.length c, Value.int .i64 l.num, Value.string l.text] 33)) hb2); have j0 := pw_cell_below HB2.out i0; have g1 := (cells8 HG2.out).2.1; clear hb2))
            go_quiet (fail)
            generalize hw4 : w2.drewN _ = w4
            have hb3 : Below W.heap.size W w4 := by rw [← hw4]; exact pw_below_drewN HB2.out _
            have hg4 : w4.heap[W.heap.size]? = some (Obj.cells #[Value.int .i64 l.kind, Value.int .i64 l.view, Value.int .i64 l.normal, Value.int .i64 l.len, Value.int .i64 l.stays, Value.slice A l.log.length c, Value.int .i64 l.num, Value.string l.text] 33) := by rw [← hw4]; exact blk_drewN HG2.out _
            have HV4 := Lib.hid (show VRep w4 p am cm t by rw [HTT.out]; exact HH.out.below hb3)
            have HF4 := Lib.hid (Fr.of_below (p := p) (am := am) (cm := cm) hb3)
            have HR4 := Lib.hid (HRD.out.below hb3)
            have HA4 : Hid (∀ k : Nat, k = k ∨ W.heap.size ≤ k) := Lib.hid (fun _ => .inl rfl)
            obtain ⟨A4, c4, hb4, _⟩ := HV4.out.blk
            clear hw4 hb3 j0 g1
            have HG4 := Lib.hid hg4
            have HB4 := Lib.hid hb4
            obtain ⟨q0, q1, q2, q3, q4, q5, q6, q7⟩ := cells8 HG4.out
            obtain ⟨p0, p1, p2, p3, p4, p5, p6, p7⟩ := cells8 HB4.out
            rw [HKK.out] at q0
            rw [HME.out] at p3
            clear hg4 hb4
            go_wp2_with (first | (go_at_call 23; refine (HFF.out _ _ _ _ _ HB4.out).mono ?_; rintro e w5 ⟨rfl, ⟨m5, rfl⟩⟩))
            generalize hw5 : w4.drewN _ = w5
            have hb5 : Below w4.heap.size w4 w5 := by rw [← hw5]; exact pw_below_drewN (Below.refl _ _) _
            have HV5 := Lib.hid (HV4.out.below (below_drew1 hb5))
            have HF5 := Lib.hid (HF4.out.below (below_drew1 hb5))
            obtain ⟨n5, D5, hA5, _⟩ := HV5.out.ack
            have hlk := ack_look hA5 x hxl hx5
            have r6 := pw_cell_below hb5 p6
            have r3 := pw_cell_below hb5 q3
            obtain ⟨w6, hup, hv6, hf6⟩ := ack_put HV5.out HOt.out x hxl _ (wf_96 HIM.out)
            have HV6 := Lib.hid hv6
            have HF6 := Lib.hid (HF5.out.trans hf6 (.inl rfl) (.inl rfl))
            have HGO2 := Lib.hid (show t.got (x : Int) l = V.reckon { t with acked := t.acked.set x (imax (t.acked.getD x 0) l.len) } from HGO.out)
            clear hv6 hf6 hA5 p0 p1 p2 p3 p4 p5 p6 p7 q0 q1 q2 q3 q4 q5 q6 q7 hw5 hb5
            rw [imax_is] at hup
            obtain ⟨v0, hv0⟩ : ∃ v0, t.acked.getD x 0 = v0 := ⟨_, rfl⟩
            rw [hv0] at hup hlk
            clear hv0
            go_region
            all_goals
              go_wp2_with (go_at_call 39; refine (reckon_calls HV6.out HOK.out).mono ?_; rintro e w7 ⟨rfl, hv7, hf7⟩; have HV7 := Lib.hid hv7; have HF7 := Lib.hid (HF6.out.trans hf7 (.inl rfl) (.inl rfl)); clear hv7 hf7)
              go_ret
              exact ⟨by rw [HE.out]; rfl, by rw [HE.out, HGO2.out]; exact ⟨_, _, HV7.out, HF7.out, (.inl rfl), (.inl rfl)⟩⟩
        · by_cases hff : fi = me
          · have hfe : (fi == me) = true := by rw [hff]; exact beq_self_eq_true me
            cases no with
            | true =>
              have HGO := Lib.hid (got3n (t := t) (fr := fr) HKK.out (by rw [HNOe.out]; simp))
              go_enter Try.func18, Try.ntmps18
              go_wp2_with (first | (go_at_call 44; refine (HOT.out _ (below_alloc (Below.refl _ _) _)).mono ?_; rintro e w1 ⟨rfl, rfl⟩) | (go_at_call 45; refine (HRT.out _ (below_alloc (Below.refl _ _) _)).mono ?_; rintro e w2 ⟨rfl, hb2⟩; have HB2 := Lib.hid (below_step (below_alloc (Below.refl _ _) _) hb2); have HG2 := Lib.hid (blk_below (blk_new W (Obj.cells #[Value.int .i64 l.kind, Value.int .i64 l.view, Value.int .i64 l.normal, Value.int .i64 l.len, Value.int .i64 l.stays, Value.slice A l.log.length c, Value.int .i64 l.num, Value.string l.text] 33)) hb2); have j0 := pw_cell_below HB2.out i0; have g1 := (cells8 HG2.out).2.1; clear hb2))
              go_quiet (fail)
              generalize hw4 : w2.drewN _ = w4
              have hb3 : Below W.heap.size W w4 := by rw [← hw4]; exact pw_below_drewN HB2.out _
              have hg4 : w4.heap[W.heap.size]? = some (Obj.cells #[Value.int .i64 l.kind, Value.int .i64 l.view, Value.int .i64 l.normal, Value.int .i64 l.len, Value.int .i64 l.stays, Value.slice A l.log.length c, Value.int .i64 l.num, Value.string l.text] 33) := by rw [← hw4]; exact blk_drewN HG2.out _
              have HV4 := Lib.hid (show VRep w4 p am cm t by rw [HTT.out]; exact HH.out.below hb3)
              have HF4 := Lib.hid (Fr.of_below (p := p) (am := am) (cm := cm) hb3)
              have HR4 := Lib.hid (HRD.out.below hb3)
              have HA4 : Hid (∀ k : Nat, k = k ∨ W.heap.size ≤ k) := Lib.hid (fun _ => .inl rfl)
              obtain ⟨A4, c4, hb4, _⟩ := HV4.out.blk
              clear hw4 hb3 j0 g1
              have HG4 := Lib.hid hg4
              have HB4 := Lib.hid hb4
              obtain ⟨q0, q1, q2, q3, q4, q5, q6, q7⟩ := cells8 HG4.out
              obtain ⟨p0, p1, p2, p3, p4, p5, p6, p7⟩ := cells8 HB4.out
              rw [HKK.out] at q0
              rw [HME.out] at p3
              clear hg4 hb4
              go_wp2_with fail
              go_quiet (first | (go_at_call 46; exact Calls.quiet_of (HFI.out _ _ _ _ _ HB4.out)) | (go_at_call 47; exact Calls.quiet_of (HNI.out _ _ _ _ _ HB4.out)))
              go_wp2_with fail
              go_ret
              exact ⟨by rw [HE.out]; rfl, by rw [HE.out, HGO.out]; exact ⟨_, _, HV4.out.below (pw_below_drewN (Below.refl _ _) _), HF4.out.below (pw_below_drewN (Below.refl _ _) _), by first | exact HA4.out | exact .inl rfl, by first | exact HC4.out | exact .inl rfl⟩⟩
            | false =>
              have HGO := Lib.hid (got3 (t := t) (fr := fr) HKK.out (by rw [HFIe.out, HME.out]; exact hfe) HNOe.out)
              obtain ⟨x, hx⟩ : ∃ x : Nat, fr = (x : Int) := ⟨fr.toNat, by have := HOB.out.1; omega⟩
              have hxl : x < t.changes.length := by
                rw [HOt.out.clen]
                have e1 : t.many = s.many := by rw [HTT.out]
                have := HOB.out
                omega
              subst hx
              have HNB := Lib.hid (show 0 ≤ l.normal ∧ l.normal ≤ 281474976710656 by have := HF0.out; omega)
              have HOK := Lib.hid (okv_chg HOt.out x l.normal l.log HNB.out HF0.out.2.2.2.2.2.2.1)
              have hll := rightL_len HF0.out.2.2.2.2.2.2.1
              go_enter Try.func18, Try.ntmps18
              go_wp2_with (first | (go_at_call 44; refine (HOT.out _ (below_alloc (Below.refl _ _) _)).mono ?_; rintro e w1 ⟨rfl, rfl⟩) | (go_at_call 45; refine (HRT.out _ (below_alloc (Below.refl _ _) _)).mono ?_; rintro e w2 ⟨rfl, hb2⟩; have HB2 := Lib.hid (below_step (below_alloc (Below.refl _ _) _) hb2); have HG2 := Lib.hid (blk_below (blk_new W (Obj.cells #[Value.int .i64 l.kind, Value.int .i64 l.view, Value.int .i64 l.normal, Value.int .i64 l.len, Value.int .i64 l.stays, Value.slice A l.log.length c, Value.int .i64 l.num, Value.string l.text] 33)) hb2); have j0 := pw_cell_below HB2.out i0; have g1 := (cells8 HG2.out).2.1; clear hb2))
              go_quiet (fail)
              generalize hw4 : w2.drewN _ = w4
              have hb3 : Below W.heap.size W w4 := by rw [← hw4]; exact pw_below_drewN HB2.out _
              have hg4 : w4.heap[W.heap.size]? = some (Obj.cells #[Value.int .i64 l.kind, Value.int .i64 l.view, Value.int .i64 l.normal, Value.int .i64 l.len, Value.int .i64 l.stays, Value.slice A l.log.length c, Value.int .i64 l.num, Value.string l.text] 33) := by rw [← hw4]; exact blk_drewN HG2.out _
              have HV4 := Lib.hid (show VRep w4 p am cm t by rw [HTT.out]; exact HH.out.below hb3)
              have HF4 := Lib.hid (Fr.of_below (p := p) (am := am) (cm := cm) hb3)
              have HR4 := Lib.hid (HRD.out.below hb3)
              have HA4 : Hid (∀ k : Nat, k = k ∨ W.heap.size ≤ k) := Lib.hid (fun _ => .inl rfl)
              obtain ⟨A4, c4, hb4, _⟩ := HV4.out.blk
              clear hw4 hb3 j0 g1
              have HG4 := Lib.hid hg4
              have HB4 := Lib.hid hb4
              obtain ⟨q0, q1, q2, q3, q4, q5, q6, q7⟩ := cells8 HG4.out
              obtain ⟨p0, p1, p2, p3, p4, p5, p6, p7⟩ := cells8 HB4.out
              rw [HKK.out] at q0
              rw [HME.out] at p3
              clear hg4 hb4
              go_wp2_with fail
              go_quiet (first | (go_at_call 46; exact Calls.quiet_of (HFI.out _ _ _ _ _ HB4.out)) | (go_at_call 47; exact Calls.quiet_of (HNI.out _ _ _ _ _ HB4.out)))
              generalize hw5 : w4.drewN _ = w5
              have hb5 : Below w4.heap.size w4 w5 := by rw [← hw5]; exact pw_below_drewN (Below.refl _ _) _
              have HV5 := Lib.hid (HV4.out.below hb5)
              have HF5 := Lib.hid (HF4.out.below hb5)
              have HGO2 := Lib.hid (show t.got (x : Int) l = V.count { t with changes := t.changes.set x (some (l.normal, l.log)) } from HGO.out)
              have HCL := Lib.hid (fun w (hw : Below w5.heap.size w5 w) => clone_calls A c l.log w (Kd.C_below (HR4.out.below hb5).1 hw) (by omega))
              have r7 := pw_cell_below hb5 p7
              have s2 := pw_cell_below hb5 q2
              have s5 := pw_cell_below hb5 q5
              clear p0 p1 p2 p3 p4 p5 p6 p7 q0 q1 q2 q3 q4 q5 q6 q7 hw5 hb5
              go_wp2_with fail
              go_region_with (go_at_call 35; refine (HCL.out _ ?_).mono ?_; (first | exact below_drew1 (Below.refl _ _) | exact Below.refl _ _); rintro e w9 ⟨v9, rfl, hR9, hb8⟩; have hb9 : Below w5.heap.size w5 w9 := (by first | exact below_step (below_drew1 (Below.refl _ _)) hb8 | exact hb8); obtain ⟨A5, c5, rfl, _, _⟩ := Kd.R_reads hR9; have z7 := pw_cell_below (w := w5) hb9 r7; have z2 := pw_cell_below (w := w5) hb9 s2; obtain ⟨w6, hup, hv6, hf6⟩ := chg_put (HV5.out.below hb9) HOt.out x hxl l.normal l.log A5 c5 (rd_of_R hR9); have HV6 := Lib.hid hv6; have HF6 := Lib.hid ((HF5.out.below hb9).trans hf6 (.inl rfl) (.inl rfl)); clear hb9 hb8 hR9 hv6 hf6)
              all_goals
                go_wp2_with (go_at_call 42; refine (count_calls HV6.out HOK.out).mono ?_; rintro e w7 ⟨rfl, hv7, hf7⟩; have HV7 := Lib.hid hv7; have HF7 := Lib.hid (HF6.out.trans hf7 (.inl rfl) (.inl rfl)); clear hv7 hf7)
                go_ret
                exact ⟨by rw [HE.out]; rfl, by rw [HE.out, HGO2.out]; exact ⟨_, _, HV7.out, HF7.out, (.inl rfl), (.inl rfl)⟩⟩
          · have hfe : (fi == me) = false := beq_eq_false_iff_ne.2 hff
            have HGO := Lib.hid (got3n (t := t) (fr := fr) HKK.out (by rw [HFIe.out, HME.out, hfe]; rfl))
            go_enter Try.func18, Try.ntmps18
            go_wp2_with (first | (go_at_call 44; refine (HOT.out _ (below_alloc (Below.refl _ _) _)).mono ?_; rintro e w1 ⟨rfl, rfl⟩) | (go_at_call 45; refine (HRT.out _ (below_alloc (Below.refl _ _) _)).mono ?_; rintro e w2 ⟨rfl, hb2⟩; have HB2 := Lib.hid (below_step (below_alloc (Below.refl _ _) _) hb2); have HG2 := Lib.hid (blk_below (blk_new W (Obj.cells #[Value.int .i64 l.kind, Value.int .i64 l.view, Value.int .i64 l.normal, Value.int .i64 l.len, Value.int .i64 l.stays, Value.slice A l.log.length c, Value.int .i64 l.num, Value.string l.text] 33)) hb2); have j0 := pw_cell_below HB2.out i0; have g1 := (cells8 HG2.out).2.1; clear hb2))
            go_quiet (fail)
            generalize hw4 : w2.drewN _ = w4
            have hb3 : Below W.heap.size W w4 := by rw [← hw4]; exact pw_below_drewN HB2.out _
            have hg4 : w4.heap[W.heap.size]? = some (Obj.cells #[Value.int .i64 l.kind, Value.int .i64 l.view, Value.int .i64 l.normal, Value.int .i64 l.len, Value.int .i64 l.stays, Value.slice A l.log.length c, Value.int .i64 l.num, Value.string l.text] 33) := by rw [← hw4]; exact blk_drewN HG2.out _
            have HV4 := Lib.hid (show VRep w4 p am cm t by rw [HTT.out]; exact HH.out.below hb3)
            have HF4 := Lib.hid (Fr.of_below (p := p) (am := am) (cm := cm) hb3)
            have HR4 := Lib.hid (HRD.out.below hb3)
            have HA4 : Hid (∀ k : Nat, k = k ∨ W.heap.size ≤ k) := Lib.hid (fun _ => .inl rfl)
            obtain ⟨A4, c4, hb4, _⟩ := HV4.out.blk
            clear hw4 hb3 j0 g1
            have HG4 := Lib.hid hg4
            have HB4 := Lib.hid hb4
            obtain ⟨q0, q1, q2, q3, q4, q5, q6, q7⟩ := cells8 HG4.out
            obtain ⟨p0, p1, p2, p3, p4, p5, p6, p7⟩ := cells8 HB4.out
            rw [HKK.out] at q0
            rw [HME.out] at p3
            clear hg4 hb4
            go_wp2_with fail
            go_quiet (first | (go_at_call 46; exact Calls.quiet_of (HFI.out _ _ _ _ _ HB4.out)) | (go_at_call 47; exact Calls.quiet_of (HNI.out _ _ _ _ _ HB4.out)))
            go_wp2_with fail
            go_ret
            exact ⟨by rw [HE.out]; rfl, by rw [HE.out, HGO.out]; exact ⟨_, _, HV4.out.below (pw_below_drewN (Below.refl _ _) _), HF4.out.below (pw_below_drewN (Below.refl _ _) _), by first | exact HA4.out | exact .inl rfl, by first | exact HC4.out | exact .inl rfl⟩⟩
end Go.Proofs.Ytndnjmgmdkkifaa.Vw1
