/- The walk of SectorFuse. -/
import Derived.Test.YtpchobikpamfcaaSk19
import Derived.StillTailTactics
import Derived.Outline
import Derived.Deep.RegionHeld
namespace Go.Proofs.Ytpchobikpamfcaa.Sk
open Go Go.RowKit Go.Maps Go.Proofs Go.Proofs.Ytpchobikpamfcaa.Q Go.Proofs.YtpchobikpamfcaaW.PrintWords Go.Proofs.YtpchobikpamfcaaW.PrintLast Go.Proofs.YtpchobikpamfcaaW.PrintMore
set_option linter.unusedVariables false
set_option linter.unusedSimpArgs false

/-- what calls that write keep, with a fuse -/
structure Fz (s : D) (F : Nat) (n : Nat) : Prop where
  ok : Ok s
  sum : (s.acts : Int) + s.fuse = F
  pos : 0 ≤ s.fuse
  dead : s.down = true → s.fuse = 0
  len : s.b.length = n
theorem fz0 {first : By} {F : Nat} (h : Ok (made first)) (hF : F ≤ 19) : Fz ((made first).fused F) F first.length :=
  ⟨ok_fused h _ (by omega), by show ((0 : Nat) : Int) + max (F : Int) (-1) = F; omega, by show 0 ≤ max (F : Int) (-1); omega, (fun h => by cases h), rfl⟩
theorem fz_ways {s : D} {F n : Nat} (h : Fz s F n) (a : Int) (x : By) (hx : ∀ y ∈ x, 0 ≤ y ∧ y ≤ 255) :
    Fz (s.write a x).1 F n ∧ (((s.acts : Int) = F ∧ (s.write a x).2 = 31 ∧ (s.write a x).1.acts = s.acts) ∨ ((s.acts : Int) < F ∧ s.down = false ∧ (s.write a x).2 = 0 ∧ (s.write a x).1.acts = s.acts + 1) ∨ ((s.acts : Int) < F ∧ s.down = false ∧ (s.write a x).2 = 1 ∧ (s.write a x).1.acts = s.acts)) := by
  have ho := ok_write h.ok a x hx
  cases hoff : s.off with
  | true =>
    have e : s.write a x = ({ s with down := true }, 31) := by unfold D.write; rw [if_pos hoff]
    have hz : s.fuse = 0 := by
      unfold D.off at hoff
      cases hd : s.down with
      | true => exact h.dead hd
      | false => rw [hd] at hoff; simpa using hoff
    have := h.sum
    rw [e] at ho ⊢
    exact ⟨⟨ho, h.sum, h.pos, fun _ => hz, h.len⟩, .inl ⟨by omega, rfl, rfl⟩⟩
  | false =>
    have hd : s.down = false ∧ (s.fuse == 0) = false := by unfold D.off at hoff; exact Bool.or_eq_false_iff.1 hoff
    have hz : s.fuse ≠ 0 := by simpa using hd.2
    have h1 := h.pos
    have h2 := h.sum
    cases hw : within s.b.length a x.length with
    | true =>
      have e : s.write a x = ({ s.did with b := splice s.b a.toNat x, wet := marks s.wet a.toNat x.length }, 0) := by unfold D.write; rw [if_neg (by rw [hoff]; decide), if_pos hw]
      obtain ⟨w1, w2, w3, w4⟩ := within_iff hw
      rw [e] at ho ⊢
      refine ⟨⟨ho, ?_, ?_, (fun hh => by cases hh), ?_⟩, .inr (.inl ⟨by omega, hd.1, rfl, rfl⟩)⟩
      · show ((s.acts + 1 : Nat) : Int) + tick s.fuse = F
        unfold tick
        omega
      · show 0 ≤ tick s.fuse
        unfold tick
        omega
      · show (splice s.b a.toNat x).length = n
        rw [splice_len _ _ _ (by omega)]
        exact h.len
    | false =>
      have e : s.write a x = (s, 1) := by unfold D.write; rw [if_neg (by rw [hoff]; decide), if_neg (by rw [hw]; decide)]
      rw [e] at ho ⊢
      exact ⟨h, .inr (.inr ⟨by omega, hd.1, rfl, rfl⟩)⟩
theorem fz_read {s : D} {F n : Nat} (h : Fz s F n) (hn : 0 < n) : (s.down = true ∧ s.read 0 1 = ([], 31)) ∨ (s.down = false ∧ ∃ x, s.read 0 1 = (x, 0)) := by
  cases hd : s.down with
  | true => exact .inl ⟨rfl, by unfold D.read; rw [if_pos hd]⟩
  | false => exact .inr ⟨rfl, _, by unfold D.read; rw [if_neg (by rw [hd]; decide), if_pos (show within s.b.length 0 1 = true from within_mk (k := 0) (n := 1) (by rw [h.len]; omega))]⟩
theorem crash_sync (s : D) (keep : List Bool) : (s.crash keep).sync.2 = 0 ∧ (s.crash keep).sync.1.down = false ∧ (s.crash keep).acts = s.acts := by
  have e : (s.crash keep).off = false := rfl
  unfold D.sync
  rw [e, if_neg (by decide)]
  exact ⟨rfl, rfl, rfl⟩
theorem cbool_nil (w : World) : CBool w none 0 [] := ⟨rfl, by omega, fun h => absurd h (Nat.lt_irrefl 0)⟩
set_option maxHeartbeats 8000000 in
set_option maxRecDepth 100000 in
theorem sectorFuse_walk {W : World} (A0 : Option Addr) (c0 : Nat) (first : By) (hf : CB W A0 first.length first) (hc0 : first.length ≤ c0) (hfr : ∀ y ∈ first, 0 ≤ y ∧ y ≤ 255) (hfl : first.length ≤ 140737488355328) (A1 : Option Addr) (c1 : Nat) (l : List Op) (hl : Kd.C k30 W A1 l.length l) (ho : OkOps l) (nn : Int) (hn0 : 0 ≤ nn) (hn1 : nn ≤ 255) :
    Calls Try.prog 7 #[.slice A0 first.length c0, .int .u8 nn, .slice A1 l.length c1] W fun e w' => e = .returned (.bool true) ∧ Below W.heap.size W w' := by
  have HH := Lib.hid (head_calls W)
  have HR := Lib.hid hl
  have HO := Lib.hid ho
  have HF := Lib.hid hf
  have hll := ho.1
  have hfl2 : (first.length : Int) ≤ 140737488355328 := by omega
  obtain ⟨F, hF⟩ : ∃ F : Nat, nn % 20 = (F : Int) := ⟨(nn % 20).toNat, by omega⟩
  have hF19 : F ≤ 19 := by omega
  cases hok : okLen first.length with
  | false =>
    have HN := Lib.hid (fun W' => of_nil (W := W') A0 c0 first hfl hok)
    clear hl ho hf hok
    go_enter Try.func7, Try.ntmps7
    go_wp2_with fail
    refine HH.out.mono ?_
    rintro e w0 ⟨rfl, hb0⟩
    have HB0 := Lib.hid hb0
    clear hb0
    go_wp2_with (go_at_call 10; refine (HN.out _).mono ?_; rintro e w1 ⟨rfl, rfl⟩)
    go_ret
    exact ⟨rfl, HB0.out⟩
  | true =>
    have HN := Lib.hid (fun W' (hb : CB W' A0 first.length first) => of_calls (W := W') A0 c0 first hb hok)
    have HI0 := Lib.hid (inv0 hok hfr)
    have HOK := Lib.hid (okLen_iff hok)
    have HGR := Lib.hid (fun wq (hb : Below W.heap.size W wq) => great_calls A1 c1 l HR.out HO.out hb)
    clear hl ho hf hok hfr
    cases hgr : greatB l with
    | true =>
      rw [hgr] at HGR
      go_enter Try.func7, Try.ntmps7
      go_wp2_with fail
      refine HH.out.mono ?_
      rintro e w0 ⟨rfl, hb0⟩
      have HB0 := Lib.hid hb0
      clear hb0
      go_wp2_with fail
      refine (HN.out _ (C_arg HF.out HB0.out)).mono ?_
      rintro e w1 ⟨p, g, cap, m, rfl, hs, hp, hg, hm, hb⟩
      have HB1 := Lib.hid (below_step HB0.out hb)
      clear hs hp hg hm hb
      go_wp2_with (go_at_call 11; refine (HGR.out _ HB1.out).mono ?_; rintro e w2 ⟨rfl, q, rfl⟩)
      go_ret
      exact ⟨rfl, below_drewN HB1.out q⟩
    | false =>
      rw [hgr] at HGR
      have HLL := Lib.hid (great_no hgr)
      by_cases h5 : first.length > 5000
      · have h5z : decide ((first.length : Int) > 5000) = true := decide_eq_true (by omega)
        go_enter Try.func7, Try.ntmps7
        go_wp2_with fail
        refine HH.out.mono ?_
        rintro e w0 ⟨rfl, hb0⟩
        have HB0 := Lib.hid hb0
        clear hb0
        go_wp2_with fail
        refine (HN.out _ (C_arg HF.out HB0.out)).mono ?_
        rintro e w1 ⟨p, g, cap, m, rfl, hs, hp, hg, hm, hb⟩
        have HB1 := Lib.hid (below_step HB0.out hb)
        clear hs hp hg hm hb
        go_wp2_with (go_at_call 11; refine (HGR.out _ HB1.out).mono ?_; rintro e w2 ⟨rfl, q, rfl⟩)
        go_ret
        exact ⟨rfl, below_drewN HB1.out q⟩
      · have h5z : decide ((first.length : Int) > 5000) = false := decide_eq_false (by omega)
        go_enter Try.func7, Try.ntmps7
        go_wp2_with fail
        refine HH.out.mono ?_
        rintro e w0 ⟨rfl, hb0⟩
        have HB0 := Lib.hid hb0
        clear hb0
        go_wp2_with fail
        refine (HN.out _ (C_arg HF.out HB0.out)).mono ?_
        rintro e w1 ⟨p, g, cap, m, rfl, hs, hp, hg, hm, hb⟩
        have HP := Lib.hid (show W.heap.size ≤ p ∧ W.heap.size ≤ g ∧ W.heap.size ≤ m from ⟨Nat.le_trans HB0.out.size hp, Nat.le_trans HB0.out.size hg, Nat.le_trans HB0.out.size hm⟩)
        have HS0 := Lib.hid hs
        have HB0' := Lib.hid (below_step HB0.out hb)
        clear hs hp hg hm hb
        go_wp2_with (go_at_call 11; refine (HGR.out _ HB0'.out).mono ?_; rintro e w2 ⟨rfl, hq⟩; have HQ := Lib.hid hq; clear hq)
        have HS1 := Lib.hid (show SR w2 p g cap m (made first) by obtain ⟨q, rfl⟩ := HQ.out; exact HS0.out.below (below_drewN (Below.refl _ _) q))
        have HB1 := Lib.hid (show Below W.heap.size W w2 by obtain ⟨q, rfl⟩ := HQ.out; exact below_drewN HB0'.out q)
        have HO0 := Lib.hid HI0.out.ok
        go_wp2_with fail
        refine (fuse_calls HS1.out (F : Int)).mono ?_
        rintro e w3 ⟨rfl, hs, hf⟩
        have HS3 := Lib.hid hs
        have HB3 := Lib.hid (Fr.weaken HB1.out hf HP.out.1 HP.out.2.1 HP.out.2.2 (Nat.le_refl _))
        have HZ0 := Lib.hid (fz0 HO0.out hF19)
        clear hs hf
        go_wp2_with fail
        go_loopg [9] l.length (fun gg s9 wr => ∃ (i : Nat) (s : D), i ≤ l.length ∧ l.length - i ≤ gg ∧ s9 = .int .i64 i ∧ Hid (SR wr p g cap m s) ∧ Hid (Fz s F first.length) ∧ Hid (Below W.heap.size W wr))
        case atStart => exact ⟨0, (made first).fused F, Nat.zero_le _, by omega, rfl, HS3.out, HZ0.out, HB3.out⟩
        case round =>
          obtain ⟨i, s, hi, hgg, rfl, HS, HZ, HB⟩ := hrel
          by_cases hlt : i < l.length
          · have hltz : decide ((i : Int) < (l.length : Int)) = true := decide_eq_true (by omega)
            have HLT := Lib.hid hlt
            obtain ⟨o, ho⟩ : ∃ o, l[i]? = some o := ⟨_, List.getElem?_eq_getElem hlt⟩
            obtain ⟨ad, X2, c2, X4, c4, ea, x0, x1, x2, x3, x4, hB2, hB4⟩ := op_at2 HR.out HB.out ho
            obtain ⟨_, _, hby, _⟩ := HO.out.2 _ (List.mem_of_getElem? ho)
            have HW := Lib.hid (fz_ways HZ.out o.f1 o.f2 hby)
            obtain ⟨o0, o1, o2, o3, o4⟩ := o
            dsimp only at x0 x1 x2 hB2 hby
            change Hid (Fz (s.write o1 o2).1 F first.length ∧ _) at HW
            have HX := Lib.hid (C_arg hB2 HB.out)
            have HAL := Lib.hid (arg_lt hB2)
            have HAC := Lib.hid (acts_calls HS.out)
            have HDN := Lib.hid (down_calls HS.out)
            obtain ⟨acts, hacts⟩ : ∃ a, s.acts = a := ⟨_, rfl⟩
            have HACTS := Lib.hid hacts
            rw [hacts] at HAC
            obtain ⟨dn, hdn⟩ : ∃ a, s.down = a := ⟨_, rfl⟩
            have HDOWN := Lib.hid hdn
            rw [hdn] at HDN
            clear x0 x3 x4 ho hby hB2 hB4 hacts hdn
            cases ea
            obtain ⟨n2, hn2⟩ : ∃ n2, o2.length = n2 := ⟨_, rfl⟩
            rw [hn2] at x2
            have HN2 := Lib.hid hn2
            have hacF : acts ≤ 19 := by have := HZ.out.sum; have := HZ.out.pos; have := HACTS.out; omega
            clear hn2
            go_wp2_with (first | (go_at_call 18; refine HAC.out.mono ?_; rintro e w4 ⟨rfl, rfl⟩) | (go_at_call 19; refine HDN.out.mono ?_; rintro e w4 ⟨rfl, rfl⟩))
            go_still_tail 11, (by kernel_rfl)
            clear x1 x2
            rename World => wr
            have HSd := Lib.hid (HS.out.below (below_drew (Below.refl _ _)))
            have HBd := Lib.hid (HB.out.trans ((below_drew (Below.refl _ _)).mono HB.out.size))
            have HXd := Lib.hid (CB.keep (w' := wr.drew) HX.out (fun ad e hp => rfl))
            go_wp2_with fail
            rw [← HN2.out]
            refine (write_calls HSd.out HZ.out.ok (by have := HACTS.out; omega) o1 o2 HXd.out (arg_off HAL.out HP.out)).mono ?_
            rintro e w2 ⟨rfl, hs, hf⟩
            have HS2 := Lib.hid hs
            have HB2 := Lib.hid (Fr.weaken HBd.out hf HP.out.1 HP.out.2.1 HP.out.2.2 (Nat.le_refl _))
            have HAC2 := Lib.hid (acts_calls HS2.out)
            clear hs hf
            rcases HW.out with ⟨hz2, ⟨k1, k2, k3⟩ | ⟨k1, k2, k3, k4⟩ | ⟨k1, k2, k3, k4⟩⟩
            · have HZ2 := Lib.hid hz2
              rw [HACTS.out] at k1 k3
              rw [k2]
              rw [k3] at HAC2
              have z : ((acts : Int) == (F : Int)) = true := beq_iff_eq.2 k1
              clear hz2 k1 k2 k3
              cases dn with
              | true =>
                go_wp2_with (go_at_call 18; refine HAC2.out.mono ?_; rintro e w4 ⟨rfl, rfl⟩)
                go_roundg (l.length - (i + 1))
                case measure => have := HLT.out; omega
                case rel => exact ⟨i + 1, _, by have := HLT.out; omega, by omega, by go_num, HS2, HZ2, HB2⟩
              | false =>
                go_wp2_with (go_at_call 18; refine HAC2.out.mono ?_; rintro e w4 ⟨rfl, rfl⟩)
                go_roundg (l.length - (i + 1))
                case measure => have := HLT.out; omega
                case rel => exact ⟨i + 1, _, by have := HLT.out; omega, by omega, by go_num, HS2, HZ2, HB2⟩
            · have HZ2 := Lib.hid hz2
              rw [HACTS.out] at k1 k4
              rw [HDOWN.out] at k2
              subst k2
              rw [k3]
              rw [k4, show ((acts + 1 : Nat) : Int) = (acts : Int) + 1 by omega] at HAC2
              have z : ((acts : Int) == (F : Int)) = false := beq_eq_false_iff_ne.2 (by omega)
              clear hz2 k1 k3 k4
              go_wp2_with (go_at_call 18; refine HAC2.out.mono ?_; rintro e w4 ⟨rfl, rfl⟩)
              go_roundg (l.length - (i + 1))
              case measure => have := HLT.out; omega
              case rel => exact ⟨i + 1, _, by have := HLT.out; omega, by omega, by go_num, HS2, HZ2, HB2⟩
            · have HZ2 := Lib.hid hz2
              rw [HACTS.out] at k1 k4
              rw [HDOWN.out] at k2
              subst k2
              rw [k3]
              rw [k4] at HAC2
              have z : ((acts : Int) == (F : Int)) = false := beq_eq_false_iff_ne.2 (by omega)
              clear hz2 k1 k3 k4
              go_wp2_with (go_at_call 18; refine HAC2.out.mono ?_; rintro e w4 ⟨rfl, rfl⟩)
              go_roundg (l.length - (i + 1))
              case measure => have := HLT.out; omega
              case rel => exact ⟨i + 1, _, by have := HLT.out; omega, by omega, by go_num, HS2, HZ2, HB2⟩
          · have hltz : decide ((i : Int) < (l.length : Int)) = false := decide_eq_false (by omega)
            go_wp2_with fail
            refine (read_calls HS.out HZ.out.ok 0 1).mono ?_
            rintro e w3 ⟨A3, c3, rfl, hR, hb⟩
            have HS4 := Lib.hid (HS.out.below hb)
            have HB4 := Lib.hid (HB.out.trans (hb.mono HB.out.size))
            have HAN := Lib.hid (show s.acts ≤ 19 by have := HZ.out.sum; have := HZ.out.pos; omega)
            have HOC := Lib.hid (ok_crash HZ.out.ok [])
            clear hR hb
            have HDN := Lib.hid (down_calls HS4.out)
            have HCR := Lib.hid (show Calls Try.prog 15 #[.pointer (some ⟨p, 0, none⟩), .slice none 0 0] w3 fun e w' => e = .returned (.tuple #[]) ∧ SR w' p g cap m (s.crash []) ∧ Fr w3 w' p g m from crash_calls (A := none) (c := 0) HS4.out HZ.out.ok [] (cbool_nil _) (fun ad e _ => by cases e))
            have hbr := fz_read HZ.out HOK.out.1
            rcases hbr with ⟨hd, hr⟩ | ⟨hd, x, hr⟩
            · rw [hr]
              rw [hd] at HDN
              clear hd hr
              go_wp2_with (first | (go_at_call 19; refine HDN.out.mono ?_; rintro e w4 ⟨rfl, rfl⟩) | (go_at_call 15; refine HCR.out.mono ?_; rintro e w5 ⟨rfl, hs, hf⟩; have HS5 := Lib.hid hs; have HB5 := Lib.hid (Fr.weaken HB4.out hf HP.out.1 HP.out.2.1 HP.out.2.2 (Nat.le_refl _)); clear hs hf))
              refine (sync_calls HS5.out HOC.out (by rw [(crash_sync s []).2.2]; have := HAN.out; omega)).mono ?_
              rintro e w6 ⟨he, hs, hf⟩
              rw [(crash_sync s []).1] at he
              subst he
              have HB6 := Lib.hid (Fr.weaken HB5.out hf HP.out.1 HP.out.2.1 HP.out.2.2 (Nat.le_refl _))
              have HDN2 := Lib.hid (down_calls hs)
              rw [(crash_sync s []).2.1] at HDN2
              clear hs hf HDN HCR
              go_wp2_with (go_at_call 19; refine HDN2.out.mono ?_; rintro e w4 ⟨rfl, rfl⟩)
              go_ret
              exact ⟨rfl, HB6.out⟩
            · rw [hr]
              rw [hd] at HDN
              clear hd hr
              go_wp2_with (first | (go_at_call 19; refine HDN.out.mono ?_; rintro e w4 ⟨rfl, rfl⟩) | (go_at_call 15; refine HCR.out.mono ?_; rintro e w5 ⟨rfl, hs, hf⟩; have HS5 := Lib.hid hs; have HB5 := Lib.hid (Fr.weaken HB4.out hf HP.out.1 HP.out.2.1 HP.out.2.2 (Nat.le_refl _)); clear hs hf))
              refine (sync_calls HS5.out HOC.out (by rw [(crash_sync s []).2.2]; have := HAN.out; omega)).mono ?_
              rintro e w6 ⟨he, hs, hf⟩
              rw [(crash_sync s []).1] at he
              subst he
              have HB6 := Lib.hid (Fr.weaken HB5.out hf HP.out.1 HP.out.2.1 HP.out.2.2 (Nat.le_refl _))
              have HDN2 := Lib.hid (down_calls hs)
              rw [(crash_sync s []).2.1] at HDN2
              clear hs hf HDN HCR
              go_wp2_with (go_at_call 19; refine HDN2.out.mono ?_; rintro e w4 ⟨rfl, rfl⟩)
              go_ret
              exact ⟨rfl, HB6.out⟩
end Go.Proofs.Ytpchobikpamfcaa.Sk
