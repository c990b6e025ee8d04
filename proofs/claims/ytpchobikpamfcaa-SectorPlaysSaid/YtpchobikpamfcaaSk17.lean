/- The walk of SectorStays. -/
import Derived.Test.YtpchobikpamfcaaSk16
import Derived.StillTailTactics
import Derived.Outline
namespace Go.Proofs.Ytpchobikpamfcaa.Sk
open Go Go.RowKit Go.Maps Go.Proofs Go.Proofs.Ytpchobikpamfcaa.Q Go.Proofs.YtpchobikpamfcaaW.PrintWords Go.Proofs.YtpchobikpamfcaaW.PrintLast Go.Proofs.YtpchobikpamfcaaW.PrintMore
set_option linter.unusedVariables false
set_option linter.unusedSimpArgs false

theorem touched_sec (x i : Nat) : touched (x * 16) 16 i = decide (x = i) := by
  unfold touched
  rw [show decide (0 < 16) = true from rfl, Bool.true_and, Bool.eq_iff_iff]
  simp only [Bool.and_eq_true, decide_eq_true_eq]
  omega
theorem sec_put {b x : By} {i : Nat} (h : i * 16 + 16 ≤ b.length) (hx : x.length = 16) : sec (splice b (i * 16) x) i = x := by
  apply List.ext_getElem?
  intro j
  by_cases hj : j < 16
  · rw [sec_get _ _ _ hj, getElem?_splice _ _ _ (by omega), if_pos (by omega), show i * 16 + j - i * 16 = j by omega]
  · have e : (sec (splice b (i * 16) x) i).length = 16 := sec_len _ _ (by rw [splice_len _ _ _ (by omega)]; omega)
    rw [List.getElem?_eq_none (l := sec (splice b (i * 16) x) i) (by omega), List.getElem?_eq_none (l := x) (by omega)]
theorem restore_sec (old : By) (keep : List Bool) (i : Nat) : ∀ (l : List Nat) (k : Nat) (b : By), (∀ x ∈ l, (x + 1) * 16 ≤ b.length ∧ (x + 1) * 16 ≤ old.length) → l.Pairwise (fun x y => x < y) →
    (∀ j, l[j]? = some i → sec (restore old keep l k b) i = if keep.getD (k + j) false then sec b i else sec old i) ∧ (i ∉ l → sec (restore old keep l k b) i = sec b i)
  | [], _, _, _, _ => ⟨fun j hj => by simp at hj, fun _ => rfl⟩
  | x :: l, k, b, h, hp => by
    obtain ⟨h1, h2⟩ := h x (by simp)
    have hx : (sec old x).length = 16 := sec_len _ _ h2
    rw [List.pairwise_cons] at hp
    have hl : (if keep.getD k false then b else splice b (x * 16) (sec old x)).length = b.length := by
      split
      · rfl
      · exact splice_len _ _ _ (by omega)
    obtain ⟨k1, k2⟩ := restore_sec old keep i l (k + 1) (if keep.getD k false then b else splice b (x * 16) (sec old x)) (fun y hy => by rw [hl]; exact h y (by simp [hy])) hp.2
    have hne : x ≠ i → sec (if keep.getD k false then b else splice b (x * 16) (sec old x)) i = sec b i := fun hn => by
      split
      · rfl
      · exact sec_splice (by omega) (by rw [hx, touched_sec]; exact decide_eq_false hn)
    refine ⟨fun j hj => ?_, fun hn => ?_⟩
    · show sec (restore old keep l (k + 1) _) i = _
      cases j with
      | zero =>
        have e : x = i := by simpa using hj
        subst e
        have hnm : x ∉ l := fun hm => by have := hp.1 x hm; omega
        rw [k2 hnm]
        show sec (if keep.getD k false then b else _) x = if keep.getD k false then _ else _
        split
        · rfl
        · exact sec_put (by omega) hx
      | succ j =>
        have hj' : l[j]? = some i := by simpa using hj
        have hne' : x ≠ i := fun e => by
          have := hp.1 i (List.mem_of_getElem? hj')
          omega
        rw [k1 j hj', hne hne', show k + 1 + j = k + (j + 1) by omega]
    · show sec (restore old keep l (k + 1) _) i = _
      rw [k2 (fun hm => hn (by simp [hm])), hne (fun e => hn (by simp [e]))]
theorem loose_up (wet : List Bool) : (loose wet).Pairwise (fun x y => x < y) := by
  unfold loose
  exact List.pairwise_lt_range.filter _
theorem crash_sec {s : D} (h : Ok s) (keep : List Bool) (i : Nat) :
    (∀ j, (loose s.wet)[j]? = some i → sec (s.crash keep).b i = if keep.getD j false then sec s.b i else sec s.old i) ∧ (i ∉ loose s.wet → sec (s.crash keep).b i = sec s.b i) := by
  obtain ⟨h1, h2⟩ := restore_sec s.old keep i (loose s.wet) 0 s.b (fun x hx => ok_fit h (loose_mem hx).1) (loose_up _)
  exact ⟨fun j hj => by rw [show (s.crash keep).b = restore s.old keep (loose s.wet) 0 s.b from rfl, h1 j hj, Nat.zero_add], h2⟩
theorem loose_not {wet : List Bool} {i : Nat} (hi : i < wet.length) (h : i ∉ loose wet) : wet.getD i false = false := by
  cases c : wet.getD i false with
  | false => rfl
  | true =>
    exfalso
    apply h
    unfold loose
    rw [List.mem_filter, List.mem_range]
    exact ⟨hi, by simpa using c⟩
/-- the last place of a sector among the first k loose ones -/
def atOf (lw : List Nat) (i : Nat) : Nat → Int
  | 0 => -1
  | k + 1 => if lw[k]? = some i then (k : Int) else atOf lw i k
theorem atOf_lt (lw : List Nat) (i : Nat) : ∀ k, -1 ≤ atOf lw i k ∧ atOf lw i k < k
  | 0 => by unfold atOf; omega
  | k + 1 => by
    have := atOf_lt lw i k
    unfold atOf
    split <;> omega
theorem atOf_cases (lw : List Nat) (i : Nat) : ∀ k, (∃ j : Nat, atOf lw i k = (j : Int) ∧ lw[j]? = some i ∧ j < k) ∨ (atOf lw i k = -1 ∧ ∀ j, j < k → lw[j]? ≠ some i)
  | 0 => .inr ⟨rfl, fun j hj => by omega⟩
  | k + 1 => by
    by_cases c : lw[k]? = some i
    · exact .inl ⟨k, by unfold atOf; rw [if_pos c], c, by omega⟩
    · rcases atOf_cases lw i k with ⟨j, h1, h2, h3⟩ | ⟨h1, h2⟩
      · exact .inl ⟨j, by unfold atOf; rw [if_neg c, h1], h2, by omega⟩
      · exact .inr ⟨by unfold atOf; rw [if_neg c, h1], fun j hj => by
          by_cases e : j = k
          · subst e; exact c
          · exact h2 j (by omega)⟩
/-- the ways of a sector -/
theorem sec_ways {s : D} (h : Ok s) (keep : List Bool) (i : Nat) (hi : i < s.wet.length) :
    (∃ j : Nat, atOf (loose s.wet) i (loose s.wet).length = (j : Int) ∧ j < keep.length ∧ keep.getD j false = true ∧ sec (s.crash keep).b i = sec s.b i) ∨
    (∃ j : Nat, atOf (loose s.wet) i (loose s.wet).length = (j : Int) ∧ j < keep.length ∧ keep.getD j false = false ∧ sec (s.crash keep).b i = sec s.old i) ∨
    (∃ j : Nat, atOf (loose s.wet) i (loose s.wet).length = (j : Int) ∧ ¬ j < keep.length ∧ sec (s.crash keep).b i = sec s.old i) ∨
    (atOf (loose s.wet) i (loose s.wet).length = -1 ∧ sec (s.crash keep).b i = sec s.old i ∧ sec s.b i = sec s.old i) := by
  obtain ⟨h1, h2⟩ := crash_sec h keep i
  rcases atOf_cases (loose s.wet) i (loose s.wet).length with ⟨j, e, hj, _⟩ | ⟨e, hn⟩
  · have h1 := h1 j hj
    by_cases c : j < keep.length
    · cases hk : keep.getD j false with
      | true => rw [hk] at h1; exact .inl ⟨j, e, c, hk, h1⟩
      | false => rw [hk] at h1; exact .inr (.inl ⟨j, e, c, hk, h1⟩)
    · have hk : keep.getD j false = false := by rw [List.getD_eq_getElem?_getD, List.getElem?_eq_none (by omega)]; rfl
      rw [hk] at h1
      exact .inr (.inr (.inl ⟨j, e, c, h1⟩))
  · have hnm : i ∉ loose s.wet := fun hm => by
      obtain ⟨j, hj⟩ := List.mem_iff_getElem?.1 hm
      exact hn j (List.getElem?_eq_some_iff.1 hj).1 hj
    have hc := h.clean i hi (loose_not hi hnm)
    exact .inr (.inr (.inr ⟨e, (h2 hnm).trans hc.symm, hc.symm⟩))
theorem Inv.len {s : D} {first : By} {i : Nat} (h : Inv s first i) : s.b.length = first.length := by rw [h.ok.bl, ← h.ok.ol, h.old]
theorem crash_blen {s : D} {first : By} {i : Nat} (h : Inv s first i) (keep : List Bool) : (s.crash keep).b.length = first.length := (crash_len h.ok keep).trans h.len
set_option maxHeartbeats 8000000 in
set_option maxRecDepth 100000 in
theorem sectorStays_walk {W : World} (A0 : Option Addr) (c0 : Nat) (first : By) (hf : CB W A0 first.length first) (hc0 : first.length ≤ c0) (hfr : ∀ y ∈ first, 0 ≤ y ∧ y ≤ 255) (hfl : first.length ≤ 140737488355328) (A1 : Option Addr) (c1 : Nat) (l : List Op) (hl : Kd.C k30 W A1 l.length l) (ho : OkOps l) (A2 : Option Addr) (c2 : Nat) (keep : List Bool) (hk : CBool W A2 keep.length keep) :
    Calls Try.prog 3 #[.slice A0 first.length c0, .slice A1 l.length c1, .slice A2 keep.length c2] W fun e w' => e = .returned (.bool true) ∧ Below W.heap.size W w' := by
  have HH := Lib.hid (head_calls W)
  have HR := Lib.hid hl
  have HO := Lib.hid ho
  have HF := Lib.hid hf
  have hll := ho.1
  have hfl2 : (first.length : Int) ≤ 140737488355328 := by omega
  have HK := Lib.hid hk
  clear hk
  cases hok : okLen first.length with
  | false =>
    have HN := Lib.hid (fun W' => of_nil (W := W') A0 c0 first hfl hok)
    clear hl ho hf hok
    go_enter Try.func3, Try.ntmps3
    go_wp2_with fail
    refine HH.out.mono ?_
    rintro e w0 ⟨rfl, hb0⟩
    have HB0 := Lib.hid hb0
    clear hb0
    go_wp2_with (go_at_call 10; refine (HN.out _).mono ?_; rintro e w1 ⟨rfl, rfl⟩)
    go_ret
    exact ⟨rfl, HB0.out⟩
  | true =>
    have HN := Lib.hid (fun W' (hb : CB W' A0 first.length first) => of_calls (W := W') A0 c0 first hb hok)
    have HI0 := Lib.hid (inv0 hok hfr)
    have HOK := Lib.hid (okLen_iff hok)
    have HGR := Lib.hid (fun wq (hb : Below W.heap.size W wq) => great_calls A1 c1 l HR.out HO.out hb)
    clear hl ho hf hok hfr
    cases hgr : greatB l with
    | true =>
      rw [hgr] at HGR
      go_enter Try.func3, Try.ntmps3
      go_wp2_with fail
      refine HH.out.mono ?_
      rintro e w0 ⟨rfl, hb0⟩
      have HB0 := Lib.hid hb0
      clear hb0
      go_wp2_with fail
      refine (HN.out _ (C_arg HF.out HB0.out)).mono ?_
      rintro e w1 ⟨p, g, cap, m, rfl, hs, hp, hg, hm, hb⟩
      have HB1 := Lib.hid (below_step HB0.out hb)
      clear hs hp hg hm hb
      go_wp2_with (go_at_call 11; refine (HGR.out _ HB1.out).mono ?_; rintro e w2 ⟨rfl, q, rfl⟩)
      go_ret
      exact ⟨rfl, below_drewN HB1.out q⟩
    | false =>
      rw [hgr] at HGR
      have HLL := Lib.hid (great_no hgr)
      by_cases h5 : first.length > 5000
      · have h5z : decide ((first.length : Int) > 5000) = true := decide_eq_true (by omega)
        go_enter Try.func3, Try.ntmps3
        go_wp2_with fail
        refine HH.out.mono ?_
        rintro e w0 ⟨rfl, hb0⟩
        have HB0 := Lib.hid hb0
        clear hb0
        go_wp2_with fail
        refine (HN.out _ (C_arg HF.out HB0.out)).mono ?_
        rintro e w1 ⟨p, g, cap, m, rfl, hs, hp, hg, hm, hb⟩
        have HB1 := Lib.hid (below_step HB0.out hb)
        clear hs hp hg hm hb
        go_wp2_with (go_at_call 11; refine (HGR.out _ HB1.out).mono ?_; rintro e w2 ⟨rfl, q, rfl⟩)
        go_ret
        exact ⟨rfl, below_drewN HB1.out q⟩
      · have h5z : decide ((first.length : Int) > 5000) = false := decide_eq_false (by omega)
        go_enter Try.func3, Try.ntmps3
        go_wp2_with fail
        refine HH.out.mono ?_
        rintro e w0 ⟨rfl, hb0⟩
        have HB0 := Lib.hid hb0
        clear hb0
        go_wp2_with fail
        refine (HN.out _ (C_arg HF.out HB0.out)).mono ?_
        rintro e w1 ⟨p, g, cap, m, rfl, hs, hp, hg, hm, hb⟩
        have HP := Lib.hid (show W.heap.size ≤ p ∧ W.heap.size ≤ g ∧ W.heap.size ≤ m from ⟨Nat.le_trans HB0.out.size hp, Nat.le_trans HB0.out.size hg, Nat.le_trans HB0.out.size hm⟩)
        have HS0 := Lib.hid hs
        have HB0' := Lib.hid (below_step HB0.out hb)
        clear hs hp hg hm hb
        go_wp2_with (go_at_call 11; refine (HGR.out _ HB0'.out).mono ?_; rintro e w2 ⟨rfl, hq⟩; have HQ := Lib.hid hq; clear hq)
        have HS1 := Lib.hid (show SR w2 p g cap m (made first) by obtain ⟨q, rfl⟩ := HQ.out; exact HS0.out.below (below_drewN (Below.refl _ _) q))
        have HB1 := Lib.hid (show Below W.heap.size W w2 by obtain ⟨q, rfl⟩ := HQ.out; exact below_drewN HB0'.out q)
        go_loopg [9] l.length (fun gg s9 wr => ∃ (i : Nat) (s : D), i ≤ l.length ∧ l.length - i ≤ gg ∧ s9 = .int .i64 i ∧ Hid (SR wr p g cap m s) ∧ Hid (Inv s first i) ∧ Hid (Below W.heap.size W wr))
        case atStart => exact ⟨0, made first, Nat.zero_le _, by omega, rfl, HS1.out, HI0.out, HB1.out⟩
        case round =>
          obtain ⟨i, s, hi, hgg, rfl, HS, HI, HB⟩ := hrel
          by_cases hlt : i < l.length
          · have hltz : decide ((i : Int) < (l.length : Int)) = true := decide_eq_true (by omega)
            have HLT := Lib.hid hlt
            obtain ⟨o, ho⟩ : ∃ o, l[i]? = some o := ⟨_, List.getElem?_eq_getElem hlt⟩
            obtain ⟨ad, X2, c2, X4, c4, ea, x0, x1, x2, x3, x4, hB2, hB4⟩ := op_at2 HR.out HB.out ho
            obtain ⟨_, _, hby, _⟩ := HO.out.2 _ (List.mem_of_getElem? ho)
            have HI2 := Lib.hid (inv_step HI.out o hby)
            obtain ⟨o0, o1, o2, o3, o4⟩ := o
            dsimp only at x0 x1 x2 hB2 hby
            have HX := Lib.hid (C_arg hB2 HB.out)
            have HAL := Lib.hid (arg_lt hB2)
            clear x3 x4 ho hby hB2 hB4
            cases ea
            rcases (show (o0 ≥ 0 ∧ o0 < 3) ∨ (¬ o0 ≥ 0) ∨ (o0 ≥ 0 ∧ ¬ o0 < 3) by omega) with ⟨d1, d2⟩ | d1 | ⟨d1, d2⟩
            · have HE := Lib.hid (show wr1 s ⟨o0, o1, o2, o3, o4⟩ = (s.write o1 o2).1 from if_pos ⟨d1, d2⟩)
              obtain ⟨n2, hn2⟩ : ∃ n2, o2.length = n2 := ⟨_, rfl⟩
              rw [hn2] at x2
              have HN2 := Lib.hid hn2
              clear hn2
              go_wp2_with fail
              go_still_tail 11, (by kernel_rfl)
              clear x0 x1 x2
              have HSd := Lib.hid (HS.out.below (below_drew (Below.refl _ _)))
              have HBd := Lib.hid (HB.out.trans ((below_drew (Below.refl wr.heap.size wr)).mono HB.out.size))
              have HXd := Lib.hid (CB.keep (w' := wr.drew) HX.out (fun ad e hp => rfl))
              go_wp2_with fail
              rw [← HN2.out]
              refine (write_calls HSd.out HI.out.ok (by have := HI.out.acts; have := HLL.out; omega) o1 o2 HXd.out (arg_off HAL.out HP.out)).mono ?_
              rintro e w2 ⟨rfl, hs, hf⟩
              have HS2 := Lib.hid (show SR w2 p g cap m (wr1 s ⟨o0, o1, o2, o3, o4⟩) by rw [HE.out]; exact hs)
              have HB2 := Lib.hid (Fr.weaken HBd.out hf HP.out.1 HP.out.2.1 HP.out.2.2 (Nat.le_refl _))
              clear hs hf
              go_wp2_with fail
              go_roundg (l.length - (i + 1))
              case measure => have := HLT.out; omega
              case rel => exact ⟨i + 1, _, by have := HLT.out; omega, by omega, by go_num, HS2, HI2, HB2⟩
            · have HE := Lib.hid (show wr1 s ⟨o0, o1, o2, o3, o4⟩ = s from if_neg (by show ¬ (0 ≤ o0 ∧ o0 < 3); omega))
              rw [HE.out] at HI2
              go_wp2_with fail
              go_roundg (l.length - (i + 1))
              case measure => have := HLT.out; omega
              case rel => exact ⟨i + 1, s, by have := HLT.out; omega, by omega, by go_num, HS, HI2, HB⟩
            · have HE := Lib.hid (show wr1 s ⟨o0, o1, o2, o3, o4⟩ = s from if_neg (by show ¬ (0 ≤ o0 ∧ o0 < 3); omega))
              rw [HE.out] at HI2
              go_wp2_with fail
              go_roundg (l.length - (i + 1))
              case measure => have := HLT.out; omega
              case rel => exact ⟨i + 1, s, by have := HLT.out; omega, by omega, by go_num, HS, HI2, HB⟩
          · have hltz : decide ((i : Int) < (l.length : Int)) = false := decide_eq_false (by omega)
            go_wp2_with fail
            refine (bytes_calls HS.out HI.out.ok).mono ?_
            rintro e w3 ⟨gn, cn, rfl, k1, k2, k3⟩
            rw [HI.out.len]
            have HS3 := Lib.hid (HS.out.below k3)
            have HB3 := Lib.hid (HB.out.trans (k3.mono HB.out.size))
            have HNW := Lib.hid k2
            have HGN := Lib.hid (And.intro k1 HS.out.lt)
            clear k1 k2 k3
            go_wp2_with fail
            refine (loose_calls HS3.out HI.out.ok).mono ?_
            rintro e w4 ⟨v, rfl, hv, hb⟩
            have HV := Lib.hid (Kd.R_mono (Kd.R_bound hv) (fun k hk => hk.2.1))
            obtain ⟨Av, cv, rfl, _, _⟩ := Kd.R_reads hv
            have HS4 := Lib.hid (HS3.out.below hb)
            have HB4 := Lib.hid (HB3.out.trans (hb.mono HB3.out.size))
            have HNW4 := Lib.hid (HNW.out.keep (hb.block gn (by obtain ⟨ext, hr, _⟩ := HNW.out; exact blk_lt hr)))
            have HLT3 := Lib.hid HS3.out.lt
            have HLL2 := Lib.hid (show (looseI s.wet).length = (loose s.wet).length by unfold looseI; rw [List.length_map])
            have hln : (looseI s.wet).length ≤ 4096 := by
              have := HI.out.ok.n2
              have h2 : (loose s.wet).length ≤ s.wet.length := by
                unfold loose
                exact Nat.le_trans (List.length_filter_le _ _) (by rw [List.length_range]; exact Nat.le_refl _)
              rw [HLL2.out]
              omega
            clear hv hb
            go_wp2_with fail
            refine (crash_calls HS4.out HI.out.ok keep (C_arg HK.out HB4.out) (arg_off (cbool_lt HK.out) HP.out)).mono ?_
            rintro e w5 ⟨rfl, hs, hf⟩
            have HS5 := Lib.hid hs
            have HB5 := Lib.hid (Fr.weaken HB4.out hf HP.out.1 HP.out.2.1 HP.out.2.2 (Nat.le_refl _))
            have HNW5 := Lib.hid (HNW4.out.keep (hf.block gn (by obtain ⟨ext, hr, _⟩ := HNW4.out; exact blk_lt hr) (by have := HGN.out; omega) (by have := HGN.out; omega) (by have := HGN.out; omega)))
            have HV5 := Lib.hid (Kd.R_step HV.out (fun k (hk : w3.heap.size ≤ k) hk2 => hf.block k hk2 (by have := HLT3.out; omega) (by have := HLT3.out; omega) (by have := HLT3.out; omega)))
            clear hs hf
            go_wp2_with fail
            refine (bytes_calls HS5.out (ok_crash HI.out.ok keep)).mono ?_
            rintro e w6 ⟨gl, cl, rfl, k1, k2, k3⟩
            rw [crash_blen HI.out keep]
            have HS6 := Lib.hid (HS5.out.below k3)
            have HB6 := Lib.hid (HB5.out.trans (k3.mono HB5.out.size))
            have HNW6 := Lib.hid (HNW5.out.keep (k3.block gn (by obtain ⟨ext, hr, _⟩ := HNW5.out; exact blk_lt hr)))
            have HLW := Lib.hid k2
            have HV6 := Lib.hid (rC (Kd.R_below HV5.out k3))
            have HF6 := Lib.hid (C_arg HF.out HB6.out)
            have HK6 := Lib.hid (C_arg HK.out HB6.out)
            clear k1 k2 k3
            have HCN := Lib.hid (show first.length ≤ cn ∧ first.length ≤ cl from ⟨by obtain ⟨ext, _, h⟩ := HNW6.out; rw [HI.out.len] at h; omega, by obtain ⟨ext, _, h⟩ := HLW.out; rw [crash_blen HI.out keep] at h; omega⟩)
            have HCN1 := Lib.hid (show CB w6 (some ⟨gn, 0, none⟩) first.length s.b by have := HNW6.out.CB (by rw [HI.out.len]; omega); rwa [HI.out.len] at this)
            have HCL1 := Lib.hid (show CB w6 (some ⟨gl, 0, none⟩) first.length (s.crash keep).b by have := HLW.out.CB (by rw [crash_blen HI.out keep]; omega); rwa [crash_blen HI.out keep] at this)
            have HM0 := Lib.hid (fun i hi => mid_run A0 c0 first hc0 i hi)
            have HM1 := Lib.hid (fun i hi => mid_run (some ⟨gn, 0, none⟩) cn s.b (by rw [HI.out.len]; exact HCN.out.1) i hi)
            have HM2 := Lib.hid (fun i hi => mid_run (some ⟨gl, 0, none⟩) cl (s.crash keep).b (by rw [crash_blen HI.out keep]; exact HCN.out.2) i hi)
            rw [HI.out.len] at HM1
            rw [crash_blen HI.out keep] at HM2
            obtain ⟨M, hM⟩ : ∃ M, first.length = M * 16 := ⟨first.length / 16, by have := HOK.out; omega⟩
            have HMM := Lib.hid (show first.length = M * 16 ∧ M = s.wet.length from ⟨hM, by have := HI.out.ok.ol; rw [HI.out.old] at this; omega⟩)
            obtain ⟨N, hN⟩ : ∃ N, first.length = N := ⟨_, rfl⟩
            rw [hN] at hM HM0 HM1 HM2 HCN1 HCL1 HF6 ⊢
            have HNN := Lib.hid hN
            have q1 : (N : Int) / 16 = (M : Int) := by omega
            have q2 : M ≤ 4096 := by have := HMM.out.2; have := HI.out.ok.n2; omega
            have q3 : 0 ≤ (N : Int) := by omega
            clear hM hN
            obtain ⟨n, hn⟩ : ∃ n, (looseI s.wet).length = n := ⟨_, rfl⟩
            rw [hn] at hln HV6 HLL2 ⊢
            clear hn
            go_wp2_with fail
            go_loopg [13] M (fun gg s13 wr => ∃ i : Nat, i ≤ M ∧ M - i ≤ gg ∧ s13 = .int .i64 i ∧ wr = w6)
            case atStart => exact ⟨0, Nat.zero_le _, by omega, rfl, rfl⟩
            case round =>
              obtain ⟨i, hi, hgg, rfl, rfl⟩ := hrel
              by_cases hlt : i < M
              · have hltz : decide ((i : Int) < (M : Int)) = true := decide_eq_true (by omega)
                have hltz2 : decide ((i : Int) < (N : Int) / 16) = true := by rw [q1]; exact hltz
                have HLT := Lib.hid hlt
                have hi16 : (i + 1) * 16 ≤ N := by have := HMM.out; have := HNN.out; omega
                obtain ⟨B0, m0, hB0⟩ := HM0.out i (by have := HNN.out; omega)
                obtain ⟨B1, m1, hB1⟩ := HM1.out i (by have := HI.out.len; have := HNN.out; omega)
                obtain ⟨B2, m2, hB2⟩ := HM2.out i (by have := crash_blen HI.out keep; have := HNN.out; omega)
                have s0 := str_run (c := c0 - i * 16) (hB0 wr HF6.out)
                have s1 := str_run (c := cn - i * 16) (hB1 wr (by have := HCN1.out; exact this))
                have s2 := str_run (c := cl - i * 16) (hB2 wr (by have := HCL1.out; exact this))
                have hw := sec_ways HI.out.ok keep i (by rw [← HMM.out.2]; exact hlt)
                rw [HI.out.old] at hw
                rw [show (loose s.wet).length = n from HLL2.out.symm] at hw
                have hw2 : (∃ j : Nat, atOf (loose s.wet) i n = (j : Int) ∧ j < keep.length ∧ keep.getD j false = true ∧ strOfNums (sec (s.crash keep).b i) = strOfNums (sec s.b i)) ∨
                    (∃ j : Nat, atOf (loose s.wet) i n = (j : Int) ∧ j < keep.length ∧ keep.getD j false = false ∧ strOfNums (sec (s.crash keep).b i) = strOfNums (sec first i)) ∨
                    (∃ j : Nat, atOf (loose s.wet) i n = (j : Int) ∧ ¬ j < keep.length ∧ strOfNums (sec (s.crash keep).b i) = strOfNums (sec first i)) ∨
                    (atOf (loose s.wet) i n = -1 ∧ strOfNums (sec (s.crash keep).b i) = strOfNums (sec first i) ∧ strOfNums (sec s.b i) = strOfNums (sec first i)) := by
                  rcases hw with ⟨j, a1, a2, a3, a4⟩ | ⟨j, a1, a2, a3, a4⟩ | ⟨j, a1, a2, a4⟩ | ⟨a1, a2, a3⟩
                  · exact .inl ⟨j, a1, a2, a3, by rw [a4]⟩
                  · exact .inr (.inl ⟨j, a1, a2, a3, by rw [a4]⟩)
                  · exact .inr (.inr (.inl ⟨j, a1, a2, by rw [a4]⟩))
                  · exact .inr (.inr (.inr ⟨a1, by rw [a2], by rw [a3]⟩))
                clear hw
                obtain ⟨sa, hsa⟩ : ∃ x, strOfNums (sec first i) = x := ⟨_, rfl⟩
                obtain ⟨sb, hsb⟩ : ∃ x, strOfNums (sec s.b i) = x := ⟨_, rfl⟩
                obtain ⟨sc, hsc⟩ : ∃ x, strOfNums (sec (s.crash keep).b i) = x := ⟨_, rfl⟩
                rw [hsa] at s0
                rw [hsb] at s1
                rw [hsc] at s2
                rw [hsa, hsb, hsc] at hw2
                have HW := Lib.hid hw2
                have hn4 : n ≤ 4096 := hln
                clear hB0 hB1 hB2 hw2 hsa hsb hsc
                go_wp2_with fail
                clear m0 m1 m2 s0 s1 s2
                go_loopg [17, 18] n (fun gg s17 s18 wq => ∃ k : Nat, k ≤ n ∧ n - k ≤ gg ∧ s18 = .int .i64 k ∧ s17 = .int .i64 (atOf (loose s.wet) i k) ∧ wq = wr)
                case atStart => exact ⟨0, Nat.zero_le _, by omega, rfl, rfl, rfl⟩
                case round =>
                  obtain ⟨k, hk, hgk, rfl, rfl, rfl⟩ := hrel
                  by_cases hlt2 : k < n
                  · have hltz3 : decide ((k : Int) < (n : Int)) = true := decide_eq_true (by omega)
                    obtain ⟨nn, hnn, hrd, hnw, hwt⟩ := looseI_get (wet := s.wet) (i := k) (by have := HLL2.out; unfold looseI; rw [List.length_map]; omega)
                    obtain ⟨ad, ea, hx⟩ := Kd.at_int HV6.out (k : Int) (by omega) (by omega)
                    rw [hrd, Int.toNat_natCast] at hx
                    cases ea
                    by_cases hni : nn = i
                    · subst hni
                      have hz : ((nn : Int) == (nn : Int)) = true := beq_self_eq_true _
                      have HA2 := Lib.hid (show atOf (loose s.wet) nn (k + 1) = (k : Int) by unfold atOf; rw [if_pos hnn])
                      clear hnn hrd hnw hwt
                      go_wp2_with fail
                      go_roundg (n - (k + 1))
                      case measure => omega
                      case rel => exact ⟨k + 1, by omega, by omega, by go_num, by rw [HA2.out], rfl⟩
                    · have hz : ((nn : Int) == (i : Int)) = false := beq_eq_false_iff_ne.2 (by omega)
                      have HA2 := Lib.hid (show atOf (loose s.wet) i (k + 1) = atOf (loose s.wet) i k by conv => lhs; unfold atOf; rw [if_neg (by rw [hnn]; simpa using hni)])
                      clear hnn hrd hnw hwt
                      go_wp2_with fail
                      go_roundg (n - (k + 1))
                      case measure => omega
                      case rel => exact ⟨k + 1, by omega, by omega, by go_num, by rw [HA2.out], rfl⟩
                  · have hltz3 : decide ((k : Int) < (n : Int)) = false := decide_eq_false (by omega)
                    obtain rfl : k = n := by omega
                    rcases HW.out with ⟨j, ha, hj, hkj, rfl⟩ | ⟨j, ha, hj, hkj, rfl⟩ | ⟨j, ha, hj, rfl⟩ | ⟨ha, rfl, rfl⟩
                    · rw [ha]
                      obtain ⟨ad, ea, hx⟩ := CBool.get HK6.out j hj
                      rw [hkj] at hx
                      cases ea
                      have g1 : decide ((j : Int) ≥ 0) = true := decide_eq_true (by omega)
                      have g2 : decide ((j : Int) < (keep.length : Int)) = true := decide_eq_true (by omega)
                      have g3 : decide ((j : Int) < 0) = false := decide_eq_false (by omega)
                      go_wp2_with fail
                      go_roundg (M - (i + 1))
                      case measure => have := HLT.out; omega
                      case rel => exact ⟨i + 1, by have := HLT.out; omega, by omega, by go_num, rfl⟩
                    · rw [ha]
                      obtain ⟨ad, ea, hx⟩ := CBool.get HK6.out j hj
                      rw [hkj] at hx
                      cases ea
                      have g1 : decide ((j : Int) ≥ 0) = true := decide_eq_true (by omega)
                      have g2 : decide ((j : Int) < (keep.length : Int)) = true := decide_eq_true (by omega)
                      have g3 : decide ((j : Int) < 0) = false := decide_eq_false (by omega)
                      go_wp2_with fail
                      go_roundg (M - (i + 1))
                      case measure => have := HLT.out; omega
                      case rel => exact ⟨i + 1, by have := HLT.out; omega, by omega, by go_num, rfl⟩
                    · rw [ha]
                      have g1 : decide ((j : Int) ≥ 0) = true := decide_eq_true (by omega)
                      have g2 : decide ((j : Int) < (keep.length : Int)) = false := decide_eq_false (by omega)
                      have g3 : decide ((j : Int) < 0) = false := decide_eq_false (by omega)
                      go_wp2_with fail
                      go_roundg (M - (i + 1))
                      case measure => have := HLT.out; omega
                      case rel => exact ⟨i + 1, by have := HLT.out; omega, by omega, by go_num, rfl⟩
                    · rw [ha]
                      go_wp2_with fail
                      go_roundg (M - (i + 1))
                      case measure => have := HLT.out; omega
                      case rel => exact ⟨i + 1, by have := HLT.out; omega, by omega, by go_num, rfl⟩
              · have hltz : decide ((i : Int) < (M : Int)) = false := decide_eq_false (by omega)
                have hltz2 : decide ((i : Int) < (N : Int) / 16) = false := by rw [q1]; exact hltz
                go_wp2_with (go_at_call 14; refine (loose_calls HS6.out (ok_crash HI.out.ok keep)).mono ?_; rintro e w7 ⟨v, rfl, hv, hb⟩; rw [show looseI (s.crash keep).wet = [] from looseI_rep _] at hv; obtain ⟨Av, cv, rfl, _, _⟩ := Kd.R_reads hv; have HB7 := Lib.hid (HB6.out.trans (hb.mono HB6.out.size)); clear hv hb)
                go_ret
                exact ⟨rfl, HB7.out⟩
end Go.Proofs.Ytpchobikpamfcaa.Sk
