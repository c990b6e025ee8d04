/- Views in memory: the walk of reckon. -/
import Derived.Test.YtndnjmgmdkkifaaVw3
namespace Go.Proofs.Ytndnjmgmdkkifaa.Vw1
open Go Go.RowKit Go.Maps Go.Proofs Go.Proofs.Ytndnjmgmdkkifaa.New Go.Proofs.Ytndnjmgmdkkifaa.Vw Go.Proofs.Ytndnjmgmdkkifaa.Vw0 Go.Proofs.YtndnjmgmdkkifaaW.PrintWords Go.Proofs.YtndnjmgmdkkifaaW.PrintLast Go.Proofs.YtndnjmgmdkkifaaW.PrintMore
set_option linter.unusedVariables false
set_option linter.unusedSimpArgs false

/-! ### counting what is still to come -/
theorem count_out (p : Nat → Bool) : ∀ (n x : Nat), n ≤ x → (List.range n).countP (fun i => p i && !(i == x)) = (List.range n).countP p := fun n x h =>
  List.countP_congr fun i hi => by
    have := List.mem_range.1 hi
    have e : (i == x) = false := beq_eq_false_iff_ne.2 (by omega)
    simp [e]
theorem count_strike (p : Nat → Bool) : ∀ (n x : Nat), x < n → p x = true → (List.range n).countP p = (List.range n).countP (fun i => p i && !(i == x)) + 1
  | 0, x, h, _ => absurd h (by omega)
  | n + 1, x, h, hp => by
    rw [List.range_succ, List.countP_append, List.countP_append]
    by_cases e : x = n
    · subst e
      rw [count_out p x x (Nat.le_refl _)]
      simp [hp]
    · have e2 : (n == x) = false := beq_eq_false_iff_ne.2 (by omega)
      rw [count_strike p n x (by omega) hp]
      simp only [List.countP_singleton, e2, Bool.not_false, Bool.and_true]
      omega
theorem count_keep (p : Nat → Bool) (n x : Nat) (hp : p x = false) : (List.range n).countP (fun i => p i && !(i == x)) = (List.range n).countP p :=
  List.countP_congr fun i hi => by
    by_cases e : i = x
    · subst e; simp [hp]
    · have e2 : (i == x) = false := beq_eq_false_iff_ne.2 e
      simp [e2]
def cntL (a : List Int) (st : Int) (left : Lit → Bool) : Nat := (List.range a.length).countP (fun i : Nat => left (.int .i64 (i : Int)) && decide (a.getD i 0 > st))
theorem count_range (q : Int → Bool) : ∀ (a : List Int), a.countP q = (List.range a.length).countP (fun i => q (a.getD i 0)) := fun a => by
  have h : a = (List.range a.length).map (fun i => a.getD i 0) := by
    apply List.ext_getElem
    · simp
    · intro i h1 h2
      simp [List.getD_eq_getElem?_getD, h1]
  conv => lhs; rw [h]
  rw [List.countP_map]
  rfl
theorem aOf_no {D : Da} {i : Int} (h : Maps.has D (.int .i64 i) = false) : aOf D i = 0 := by
  unfold aOf
  rw [atKey_of_not_has h]
theorem cnt_start {a : List Int} {D : Da} {st : Int} (hst : 0 ≤ st) (h : ∀ i : Nat, i < a.length → aOf D (i : Int) = a.getD i 0) : cntL a st (Maps.has D) = a.countP (fun n => decide (n > st)) := by
  rw [count_range]
  unfold cntL
  refine List.countP_congr fun i hi => ?_
  have hi2 := List.mem_range.1 hi
  cases c : Maps.has D (.int .i64 (i : Int)) with
  | true => simp
  | false =>
    have := h i hi2
    rw [aOf_no c] at this
    rw [← this]
    simp
    omega
theorem cnt_step {a : List Int} {st : Int} {left : Lit → Bool} {x : Nat} (hx : x < a.length) (hl : left (.int .i64 (x : Int)) = true) :
    cntL a st left = cntL a st (fun z => left z && !z.sameKey (.int .i64 (x : Int))) + (if a.getD x 0 > st then 1 else 0) := by
  have e : cntL a st (fun z => left z && !z.sameKey (.int .i64 (x : Int))) = (List.range a.length).countP (fun i : Nat => (left (.int .i64 (i : Int)) && decide (a.getD i 0 > st)) && !(i == x)) := by
    unfold cntL
    refine List.countP_congr fun i _ => ?_
    have : (Lit.int .i64 (i : Int)).sameKey (.int .i64 (x : Int)) = (i == x) := by
      simp [Lit.sameKey]; rw [Bool.eq_iff_iff]; simp; omega
    dsimp only
    rw [this]
    cases left (.int .i64 (i : Int)) <;> cases (i == x) <;> simp
  rw [e]
  by_cases c : a.getD x 0 > st
  · rw [if_pos c]
    exact count_strike (fun i : Nat => left (.int .i64 (i : Int)) && decide (a.getD i 0 > st)) a.length x hx (by rw [hl]; simpa using c)
  · rw [if_neg c, Nat.add_zero]
    exact (count_keep (fun i : Nat => left (.int .i64 (i : Int)) && decide (a.getD i 0 > st)) a.length x (by rw [hl]; simpa using c)).symm
theorem cnt_end {a : List Int} {st : Int} {left : Lit → Bool} (h : ∀ kl, left kl = false) : cntL a st left = 0 := by
  unfold cntL
  rw [List.countP_eq_zero]
  intro i _
  simp [h]
/-! ### the rounds of reckon -/
theorem reckonN_enough : ∀ (k : Nat) (s : V), 0 ≤ s.stays → s.log.length - s.stays.toNat ≤ k → reckonN k s = reckonN (s.log.length - s.stays.toNat) s
  | 0, s, h0, h => by rw [show s.log.length - s.stays.toNat = 0 by omega]
  | k + 1, s, h0, h => by
    rcases Nat.lt_or_ge s.stays.toNat s.log.length with c | c
    · obtain ⟨m, hm⟩ : ∃ m, s.log.length - s.stays.toNat = m + 1 := ⟨s.log.length - s.stays.toNat - 1, by omega⟩
      rw [hm]
      unfold reckonN
      split
      · split
        · have e1 := reckonN_enough k { s with stays := s.stays + 1 } (by show 0 ≤ s.stays + 1; omega) (by show s.log.length - (s.stays + 1).toNat ≤ k; omega)
          have e2 : ({ s with stays := s.stays + 1 } : V).log.length - ({ s with stays := s.stays + 1 } : V).stays.toNat = m := by show s.log.length - (s.stays + 1).toNat = m; omega
          rw [e1, e2]
        · rfl
      · rfl
    · rw [show s.log.length - s.stays.toNat = 0 by omega]
      unfold reckonN
      rw [if_neg]
      simp
      intro _
      omega
/-- one round -/
def goB (s : V) : Bool := s.firstB && decide (s.stays < s.log.length)
def up (s : V) : V := { s with stays := s.stays + 1 }
def left_ (s : V) : Nat := s.log.length - s.stays.toNat
theorem reckon_is (s : V) (h : 0 ≤ s.stays) : s.reckon = reckonN (left_ s) s := reckonN_enough s.log.length s h (by omega)
theorem reckon_no {s : V} (h : goB s = false) : reckonN (left_ s) s = s := by
  cases left_ s with
  | zero => rfl
  | succ k =>
    unfold reckonN
    unfold goB at h
    rw [h]; rfl
theorem reckon_stop {s : V} (hm : s.mostB s.others = false) : reckonN (left_ s) s = s := by
  cases left_ s with
  | zero => rfl
  | succ k =>
    unfold reckonN
    rw [hm]
    split <;> rfl
theorem reckon_go {s : V} (h0 : 0 ≤ s.stays) (h : goB s = true) (hm : s.mostB s.others = true) : reckonN (left_ s) s = reckonN (left_ (up s)) (up s) ∧ left_ s = left_ (up s) + 1 := by
  have hlt : s.stays < s.log.length := by
    unfold goB at h
    simp only [Bool.and_eq_true, decide_eq_true_eq] at h
    exact h.2
  have e : left_ s = left_ (up s) + 1 := by unfold left_ up; dsimp only; omega
  refine ⟨?_, e⟩
  rw [e]
  conv => lhs; unfold reckonN
  unfold goB at h
  rw [h, if_pos rfl, hm, if_pos rfl]
  rfl
theorem VRep.ne2 {W : World} {p am cm : Nat} {s : V} (h : VRep W p am cm s) : am ≠ p ∧ cm ≠ p := by
  obtain ⟨A, c, h1, _⟩ := h.blk
  obtain ⟨_, _, h2, _⟩ := h.ack
  obtain ⟨_, _, h3, _⟩ := h.chg
  refine ⟨fun e => ?_, fun e => ?_⟩
  · subst e; obtain ⟨es, cl, h⟩ := own_kind h2.own; rw [show W.heap[am]? = _ from h1] at h; cases h
  · subst e; obtain ⟨es, cl, h⟩ := own_kind h3.own; rw [show W.heap[cm]? = _ from h1] at h; cases h
/-- a store into the part's own block -/
theorem VRep.put {W : World} {p am cm : Nat} {s s' : V} (h : VRep W p am cm s) (j : Nat) (u : Value) {A : Option Addr} {c : Nat} (hb : Blk (W.setCell ⟨p, j, none⟩ u) p am cm A c s') (hl : Rd W (.slice A s'.log.length c) s'.log)
    (ha : s'.acked = s.acked) (hc : s'.changes = s.changes) : VRep (W.setCell ⟨p, j, none⟩ u) p am cm s' := by
  have hF : ∀ {v : Value} {l : Log}, Rd W v l → Rd (W.setCell ⟨p, j, none⟩ u) v l := fun hr => hr.keep fun k cells fr hk => Below.heap_setCell W ⟨p, j, none⟩ u k (h.kinds hk).1
  obtain ⟨n1, n2⟩ := h.ne2
  obtain ⟨n, D, h3, h4⟩ := h.ack
  obtain ⟨m, E, h5, h6⟩ := h.chg
  exact ⟨⟨A, c, hb, hF hl⟩, ⟨n, D, by rw [ha]; exact ⟨own_block h3.own (Below.heap_setCell W ⟨p, j, none⟩ u am n1), h3.at_, h3.has, h3.sz⟩, h4⟩, ⟨m, E, by rw [hc]; exact h5.keep (Below.heap_setCell W ⟨p, j, none⟩ u cm n2) (fun hr => hF hr), h6⟩, h.ne⟩
theorem okv_up {s : V} (o : OkV s) (h : s.stays + 1 ≤ 96) : OkV (up s) := ⟨o.many, o.me, o.normal, o.view, o.log, ⟨by show 0 ≤ s.stays + 1; have := o.stays.1; omega, h⟩, o.alen, o.ack, o.clen, o.chg⟩
/-! ### the walk -/
set_option maxHeartbeats 4000000 in
set_option maxRecDepth 100000 in
theorem reckon_calls {W : World} {p am cm : Nat} {s : V} (h : VRep W p am cm s) (o : OkV s) :
    Calls Try.prog 39 #[.pointer (some ⟨p, 0, none⟩)] W fun e w' => e = .returned (.tuple #[]) ∧ VRep w' p am cm s.reckon ∧ Fr W w' p am cm := by
  have HH := Lib.hid h
  have HO := Lib.hid o
  have HR := Lib.hid (reckon_is s o.stays.1)
  clear h o
  go_enter Try.func39, Try.ntmps39
  go_wp2_with fail
  go_loopg [2] (left_ s) (fun gg _ wr => ∃ t : V, left_ t ≤ gg ∧ Hid (VRep wr p am cm t) ∧ Hid (OkV t) ∧ Hid (reckonN (left_ t) t = s.reckon) ∧ Hid (Fr W wr p am cm))
  case atStart => exact ⟨s, Nat.le_refl _, HH.out, HO.out, HR.out.symm, Fr.refl _ _ _ _⟩
  case round =>
    obtain ⟨t, hg, hV, hO, hR, hF⟩ := hrel
    obtain ⟨A, c, hb, hrd⟩ := hV.out.blk
    have HFC := Lib.hid (fun n => First_calls (W := wr.drewN n) hb hO.out)
    obtain ⟨h0, h1, h2, h3, h4, h5, h6, h7⟩ := cells8 hb
    have HB := Lib.hid hb
    have hs0 := hO.out.stays
    clear h0 h1 h3 h4 h6 h7 hb hrd
    obtain ⟨wo, rfl⟩ : ∃ wo : World, wo = wr := ⟨_, rfl⟩
    have hgb : goB t = (t.firstB && decide (t.stays < t.log.length)) := rfl
    have HGB := Lib.hid hgb
    clear hgb
    obtain ⟨f, hf⟩ : ∃ f, t.firstB = f := ⟨_, rfl⟩
    rw [hf] at HFC HGB
    clear hf
    have hll : t.log.length ≤ 96 := by
      have := hO.out.log
      unfold rightL at this
      simp only [Bool.and_eq_true, decide_eq_true_eq] at this
      exact this.2.1
    obtain ⟨len, hlen⟩ : ∃ len, t.log.length = len := ⟨_, rfl⟩
    rw [hlen] at h2 hll
    have HLEN := Lib.hid hlen
    clear hlen
    obtain ⟨st, hst⟩ : ∃ st, t.stays = st := ⟨_, rfl⟩
    rw [hst] at h5 hs0
    have HST := Lib.hid hst
    clear hst
    have hs1 : 0 ≤ st := hs0.1
    have hs2 : st ≤ 96 := hs0.2
    clear hs0
    cases f with
    | false =>
      have HE := Lib.hid (show t = s.reckon from (reckon_no (by rw [HGB.out]; rfl)).symm.trans hR.out)
      go_wp2_with fail
      go_quiet ((go_at_call 23; exact Calls.quiet_of (HFC.out _)))
      go_wp2_with fail
      go_end0
      exact ⟨rfl, by rw [← HE.out]; exact hV.out.below (pw_below_drewN (Below.refl _ _) _), hF.out.below (pw_below_drewN (Below.refl _ _) _)⟩
    | true =>
      by_cases hlt : st < (len : Int)
      · have d1 : decide (st < (len : Int)) = true := decide_eq_true hlt
        have HG := Lib.hid (show goB t = true by rw [HGB.out, HST.out, HLEN.out, d1]; rfl)
        go_wp2_with fail
        go_quiet ((go_at_call 23; exact Calls.quiet_of (HFC.out _)))
        generalize hwq : wo.drewN _ = wq
        have hbq : Below wo.heap.size wo wq := by rw [← hwq]; exact pw_below_drewN (Below.refl _ _) _
        have HVQ := Lib.hid (hV.out.below hbq)
        have HFQ := Lib.hid (hF.out.below hbq)
        clear hwq hbq h2 h5
        obtain ⟨n, D, hA, hn⟩ := HVQ.out.ack
        obtain ⟨A2, c2, hb2, hrd2⟩ := HVQ.out.blk
        obtain ⟨g0, g1, g2, g3, g4, g5, g6, g7⟩ := cells8 hb2
        rw [HST.out] at g5
        have HA := Lib.hid hA
        have HB2 := Lib.hid hb2
        have HRD2 := Lib.hid hrd2
        clear hb2 hrd2 g0 g1 g2 g3 g4 g7 hA
        go_wp2_with (first | (at_range; refine wpList_range_own _ rfl _ 70 rfl 3 3 law3 u70 _ am n D rfl HA.out.own ?_; intro w0 hrg0 hg0 hs0) | go_in)
        go_frame
        have hst0 := Lib.hid (cnt_start hs1 HA.out.at_)
        go_loopg [2] (Maps.size D) (fun gg s2 wr => ∃ (left : Lit → Bool) (cnt k : Nat), cnt ≤ gg ∧ s2 = .int .i64 k ∧ k ≤ 5 ∧ Hid (wr.ranges Try.prog 3 (plainElem Try.prog 3) am wq.heap.size n D left cnt) ∧ Hid (k + cntL t.acked st left = t.others) ∧ Hid (Below wq.heap.size wq wr))
        case atStart => exact ⟨_, _, 0, Nat.le_refl _, rfl, by omega, hrg0, (show 0 + cntL t.acked st (Maps.has D) = t.others by rw [Nat.zero_add, hst0.out]; unfold V.others; rw [HST.out]), (Below.refl _ _).grown hg0 (Nat.le_refl _) (fun j hj => by cases hj)⟩
        case round =>
          obtain ⟨left, cnt, k, hcnt, rfl, hk5, hrg, hsum, hBw⟩ := hrel
          have r5 := pw_cell_below hBw.out g5
          go_wp2_with (first | (at_next; refine wpList_next_ranges_ii _ rfl _ rfl 3 3 .i64 .i64 law3 u3 u3 am wq.heap.size n _ _ _ rfl hrg.out ?_ ?_) | go_in)
          · intro _ hl0
            have hko := Lib.hid (show t.others = k by have := hsum.out; rw [cnt_end hl0] at this; omega)
            have hVr := Lib.hid (HVQ.out.below hBw.out)
            have HM := Lib.hid (fun W' (hw : W' = wr) => most_calls (W := W') (p := p) (am := am) (cm := cm) (A := A2) (c := c2) (s := t) (by rw [hw]; exact blk_below HB2.out hBw.out) (k : Int) ⟨by omega, by omega⟩)
            clear hl0 hsum r5
            cases hm : t.mostB (k : Int) with
            | false =>
              rw [hm] at HM
              have HE := Lib.hid (show t = s.reckon from (reckon_stop (by rw [hko.out]; exact hm)).symm.trans hR.out)
              clear hm
              go_wp2_with fail
              refine (HM.out _ rfl).mono ?_
              rintro e w' ⟨rfl, rfl⟩
              go_wp2_with fail
              (try simp only [Exit.inBlock, Exit.then])
              refine bodyPost_ret (results_none rfl _ _ _) rfl ?_
              exact ⟨rfl, by rw [← HE.out]; exact hVr.out, HFQ.out.below hBw.out⟩
            | true =>
              rw [hm] at HM
              have HE := Lib.hid (reckon_go (by rw [HST.out]; exact hs1) HG.out (by rw [hko.out]; exact hm))
              have hb3 := blk_below HB2.out hBw.out
              have f5 := blk_frozen hb3 5
              obtain ⟨k0, k1, k2, k3, k4, k5, k6, k7⟩ := cells8 hb3
              rw [HST.out] at k5
              have HB3 := Lib.hid hb3
              have hRD := Lib.hid (Rd.below HRD2.out hBw.out)
              clear hm k0 k1 k2 k3 k4 k6 k7 hb3
              go_wp2_with fail
              refine (HM.out _ rfl).mono ?_
              rintro e w' ⟨rfl, rfl⟩
              go_wp2_with fail
              go_roundg (left_ (up t))
              case measure => have := HE.out.2; omega
              case rel =>
                have e5 : Blk (w'.setCell ⟨p, 5, none⟩ (.int .i64 (st + 1))) p am cm A2 c2 (up t) := by
                  have := blk_put HB3.out 5 (.int .i64 (st + 1)) rfl
                  rw [← HST.out] at this ⊢
                  exact this
                exact ⟨up t, Nat.le_refl _, hVr.out.put 5 _ e5 hRD.out rfl rfl, okv_up hO.out (by rw [HST.out]; omega), HE.out.1.symm.trans hR.out, set_fr (HFQ.out.below hBw.out) 5 _⟩
          · intro x cc w1 cnt1 hwx hwc hlx hat hrg1 hltc hg1 hs1' hen
            obtain ⟨hx0, hx1⟩ := HA.out.has x (has_true_of_atKey hat)
            obtain ⟨xn, rfl⟩ : ∃ xn : Nat, x = (xn : Int) := ⟨x.toNat, by omega⟩
            have hcc : t.acked.getD xn 0 = cc := by
              have := HA.out.at_ xn (by omega)
              rw [← this]; unfold aOf; rw [hat]
            have hstep := cnt_step (a := t.acked) (st := st) (x := xn) (by omega) hlx
            rw [hcc] at hstep
            have hlen5 : t.others ≤ 5 := by
              have e1 : t.others ≤ t.acked.length := by unfold V.others; exact List.countP_le_length
              have e2 := hO.out.alen
              have e3 := hO.out.many
              omega
            have hsm := hsum.out
            have r6 := pw_cell_below (hBw.out.grown hg1 hBw.out.size (fun j hj => by cases hj; exact Nat.le_refl _)) g5
            have HB1 := Lib.hid (hBw.out.grown hg1 hBw.out.size (fun j hj => by cases hj; exact Nat.le_refl _))
            have HRG1 := Lib.hid hrg1
            clear hrg1 hg1 r5 hcc hat hwc hwx
            by_cases hgt : cc > st
            · rw [if_pos hgt] at hstep
              have HS := Lib.hid hstep
              clear hstep hsm
              go_wp2_with fail
              go_roundg cnt1
              case measure => omega
              case rel => exact ⟨_, cnt1, k + 1, Nat.le_refl _, by go_num, by have := HS.out; have := hsum.out; omega, HRG1.out, (show k + 1 + cntL _ _ _ = _ by have := HS.out; have := hsum.out; omega), HB1.out⟩
            · rw [if_neg hgt] at hstep
              have HS := Lib.hid hstep
              clear hstep hsm
              go_wp2_with fail
              go_roundg cnt1
              case measure => omega
              case rel => exact ⟨_, cnt1, k, Nat.le_refl _, rfl, hk5, HRG1.out, (show k + cntL _ _ _ = _ by have := HS.out; have := hsum.out; omega), HB1.out⟩
      · have d1 : decide (st < (len : Int)) = false := decide_eq_false hlt
        have HE := Lib.hid (show t = s.reckon from (reckon_no (by rw [HGB.out, HST.out, HLEN.out, d1]; rfl)).symm.trans hR.out)
        go_wp2_with fail
        go_quiet ((go_at_call 23; exact Calls.quiet_of (HFC.out _)))
        go_wp2_with fail
        go_end0
        exact ⟨rfl, by rw [← HE.out]; exact hV.out.below (pw_below_drewN (Below.refl _ _) _), hF.out.below (pw_below_drewN (Below.refl _ _) _)⟩
end Go.Proofs.Ytndnjmgmdkkifaa.Vw1
