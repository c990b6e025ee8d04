/- WalRoom: the law walked. -/
import Derived.Test.YtnobhjpobnmiaaaDoorWl18
namespace Go.Proofs.YtnobhjpobnmiaaaDoor.Wl
open Go Go.RowKit Go.Maps Go.Proofs Go.Proofs.YtnobhjpobnmiaaaDoor.Sk Go.Proofs.YtnobhjpobnmiaaaDoorW.PrintWords Go.Proofs.YtnobhjpobnmiaaaDoorW.PrintLast Go.Proofs.YtnobhjpobnmiaaaDoorW.PrintMore
set_option linter.unusedVariables false
set_option linter.unusedSimpArgs false

section
variable {B : Nat} {W W' w : World} {p g cap m q : Nat} {s : D} {G : LS} {v : Value} {ok : Nat → Prop}
theorem SYS.bound (h : SYS B W p g cap m q s G v ok) : SYS B W p g cap m q s G v (fun k => ok k ∧ k < W.heap.size) := ⟨h.sr, h.o, ⟨h.lb.blk, Kd.R_mono (Kd.R_bound h.lb.rows) (fun k hk => ⟨hk.1, hk.2.2.1⟩)⟩, fun k hk => h.hok k hk.1, h.hB⟩
theorem CB.kp {X : Nat → Prop} {A : Option Addr} {n : Nat} {x : By} (h : CB W A n x) (hk : Kp W W' X) (hA : ∀ ad, A = some ad → 0 < n → ¬ X ad.block) : CB W' A n x := CB.keep h fun ad e hp => hk.block _ (cb_lt h ad e hp) (hA ad e hp)
set_option maxHeartbeats 8000000 in
set_option maxRecDepth 100000 in
theorem walRoom_walk (x y : Int) (x0 : 0 ≤ x) (x1 : x ≤ 65535) (y0 : 0 ≤ y) (y1 : y ≤ 65535) (W : World) : Calls Tryd.prog 4 #[.int .u16 x, .int .u16 y] W fun e w' => e = .returned (.bool true) ∧ Below W.heap.size W w' := by
  obtain ⟨n, hn⟩ : ∃ n : Nat, 3 + x % 300 = (n : Int) := ⟨(3 + x % 300).toNat, by omega⟩
  obtain ⟨L, hL⟩ : ∃ L : Nat, y % 200 = (L : Int) := ⟨(y % 200).toNat, by omega⟩
  have hn1 : 3 ≤ n ∧ n ≤ 302 := by omega
  have hL1 : L ≤ 199 := by omega
  obtain ⟨nd, hnd⟩ : ∃ nd, need L = nd := ⟨_, rfl⟩
  have hnd2 : nd = 1 + (L + 15) / 16 := by rw [← hnd]; rfl
  obtain ⟨H, hH⟩ : ∃ H, (n - 1) / 2 = H := ⟨_, rfl⟩
  obtain ⟨mm, hmm⟩ : ∃ mm, H / nd = mm := ⟨_, rfl⟩
  have hndp : 1 ≤ nd ∧ nd ≤ 14 := by omega
  have hmm1 : mm * nd ≤ H := by rw [← hmm]; exact Nat.div_mul_le_self H nd
  have hmm2 : H < (mm + 1) * nd := by rw [← hmm, Nat.mul_comm]; exact Nat.lt_mul_div_succ H (by omega)
  have hHb : H ≤ 150 := by omega
  have hmb : mm ≤ 150 := by rw [← hmm]; exact Nat.le_trans (Nat.div_le_self H nd) hHb
  have HHF := Lib.hid (show half (n * 16) = H by rw [half_16, hH])
  have HH := Lib.hid (head_walk W)
  have HBG := Lib.hid (fun w => begin_calls n (by omega) (by omega) w)
  have HNX := Lib.hid hn
  have HLX := Lib.hid hL
  have HND := Lib.hid hnd
  have HM1 := Lib.hid hmm1
  have HM2 := Lib.hid hmm2
  have HDP := Lib.hid hndp
  have v1 : (15 + (L : Int)) / 16 + 1 = (nd : Int) := by omega
  have v2 : 1 + ((L : Int) + 15) / 16 = (nd : Int) := by omega
  have v3 : ((n : Int) - 1) / 2 = (H : Int) := by omega
  have v4 : (H : Int) / (nd : Int) = (mm : Int) := by rw [← hmm]; norm_cast
  have v5 : (L : Int) ≤ 199 := by omega
  have v6 : ¬ ((nd : Int) = 0) := by omega
  have v7 : (n : Int) ≤ 302 := by omega
  have v8 : 3 ≤ (n : Int) := by omega
  have HV := Lib.hid (And.intro v2 (And.intro v3 v4))
  have m1 := make_run L (by omega)
  clear hn hL hnd hnd2 hH hmm hmm1 hmm2 v1 v2 v3 v4
  go_enter Tryd.func4, Tryd.ntmps4
  go_upto_region 3 with (go_at_call 9; refine HH.out.mono ?_; rintro e w0 ⟨rfl, hb⟩; have HB0 := Lib.hid hb; clear hb)
  rw [HNX.out]
  go_upto_region 6 with (go_at_call 15; refine (HBG.out _).mono ?_; rintro e w1 ⟨p, g, cap, m, q, v, ok, rfl, hy, hb⟩; have HY := Lib.hid (SYS.bound hy); have HB := Lib.hid (below_step HB0.out hb); have HS0 := Lib.hid hb.size; clear hy hb)
  have hHL := HLX.out
  go_upto_region 7 with (fail)
  have hb2 := below_alloc (Below.refl w1.heap.size w1) (.cells (enc (List.replicate L 0)).toArray 5)
  have HY2 := Lib.hid (HY.out.below hb2)
  have HB2 := Lib.hid (below_step HB.out hb2)
  have HCB := Lib.hid (by have := zarg w1 L (by omega); rw [zer_len] at this; exact this : CB (w1.alloc (.cells (enc (List.replicate L 0)).toArray 5)) (some ⟨w1.heap.size, 0, none⟩) L (zer L))
  have HGL := Lib.hid (show w1.heap.size < (w1.alloc (.cells (enc (List.replicate L 0)).toArray 5)).heap.size by rw [size_alloc]; omega)
  have HNO := Lib.hid (show ¬ Own p g m q (fun k => (ok k ∧ k < w1.heap.size)) w1.heap.size by
    have h1 := HY.out.sr.lt
    have h2 := blk_lt HY.out.lb.blk
    rintro (e | e | e | e | ⟨_, e⟩) <;> omega)
  have HSB := Lib.hid (show W.heap.size ≤ w0.heap.size from HB0.out.size)
  generalize w1.alloc (.cells (enc (List.replicate L 0)).toArray 5) = w2 at HY2 HB2 HCB HGL ⊢
  obtain ⟨gb, hgb⟩ : ∃ gb, w1.heap.size = gb := ⟨_, rfl⟩
  rw [hgb] at HCB HGL HNO HY2 ⊢
  have hHV := HV.out.1
  clear hgb hb2 hHL
  have hHV2 := HV.out.2.1
  have hHV3 := HV.out.2.2
  have HG0 := Lib.hid (show ∃ v' ok', SYS W.heap.size w2 p g cap m q (made (zer (n * 16))) ⟨0, List.replicate 0 (zer L), 0 * nd⟩ v' ok' ∧ ¬ Own p g m q ok' gb ∧ Below W.heap.size W w2 from by
    refine ⟨v, _, ?_, HNO.out, HB2.out⟩
    rw [Nat.zero_mul]
    exact ⟨HY2.out.sr, HY2.out.o, HY2.out.lb, fun k hk => by have := HY2.out.hok k hk; exact ⟨Nat.le_trans HSB.out this.1, this.2⟩, by have := HY2.out.hB; have := HSB.out; omega⟩)
  go_upto_block 0 with (fail)
  clear hHV hHV2 hHV3
  go_wp2_with fail
  go_loopg [13, 14] mm (fun gg s13 s14 wr => ∃ i : Nat, i ≤ mm ∧ mm - i ≤ gg ∧ s13 = .int .i64 i ∧ ∃ s : D, Hid (Up s ∧ s.b.length = n * 16 ∧ s.acts ≤ 4 * i) ∧ Hid (∃ v' ok', SYS W.heap.size wr p g cap m q s ⟨0, List.replicate i (zer L), i * nd⟩ v' ok' ∧ ¬ Own p g m q ok' gb ∧ Below W.heap.size W wr) ∧ Hid (CB wr (some ⟨gb, 0, none⟩) L (zer L)) ∧ Hid (gb < wr.heap.size))
  case atStart => exact ⟨0, Nat.zero_le _, by omega, rfl, made (zer (n * 16)), Lib.hid ⟨made_up n, zer_len _, Nat.le_refl _⟩, HG0, HCB, HGL⟩
  case round =>
    obtain ⟨i, hi, hgg, rfl, s, HU, HG, HC, HLT⟩ := hrel
    by_cases hlt : i < mm
    · have hltz : (i : Int) < (mm : Int) := by omega
      have HAP := Lib.hid (show Calls Tryd.prog 13 #[.pointer (some ⟨q, 0, none⟩), .slice (some ⟨gb, 0, none⟩) L L] wr (fun e w' => e = .returned (.int .i64 0) ∧ ∃ s' : D, (Up s' ∧ s'.b.length = n * 16 ∧ s'.acts ≤ 4 * (i + 1)) ∧ (∃ v' ok', SYS W.heap.size w' p g cap m q s' ⟨0, List.replicate (i + 1) (zer L), (i + 1) * nd⟩ v' ok' ∧ ¬ Own p g m q ok' gb ∧ Below W.heap.size W w') ∧ CB w' (some ⟨gb, 0, none⟩) L (zer L) ∧ gb < w'.heap.size) from by
        obtain ⟨v', ok', hs, hno, hbl⟩ := HG.out
        obtain ⟨u1, u2, u3⟩ := HU.out
        have hit : (i + 1) * nd ≤ H := Nat.le_trans (Nat.mul_le_mul_right nd (by omega)) HM1.out
        have hit2 : i * nd + nd = (i + 1) * nd := by rw [Nat.add_mul, Nat.one_mul]
        have hu := up_append (G := ⟨0, List.replicate i (zer L), i * nd⟩) u1 hs.o (by rw [u2]; omega) (show (0 : Nat) ≤ 1 by decide) (b := zer L) (zer_range _) (by rw [zer_len]; omega) (by rw [u2, HHF.out, zer_len, HND.out]; show nd + i * nd ≤ H; omega)
        have hap := hs.append (c := L) (by omega) (show (0 : Nat) ≤ 1 by decide) (by show i * nd ≤ 100000; omega) (by show (List.replicate i (zer L)).length ≤ _; rw [List.length_replicate]; omega) (zer L) (by rw [zer_len]; exact HC.out) (zer_range _) (by rw [zer_len]; omega) (fun ad e _ => by cases e; exact ⟨fun e => hno (.inl e), fun e => hno (.inr (.inl e)), fun e => hno (.inr (.inr (.inl e)))⟩)
        rw [zer_len] at hap
        refine hap.mono ?_
        rintro e w' ⟨rfl, ⟨v2, h2⟩, hk⟩
        have e6 := hu.2.2.2.2.2
        rw [zer_len, HND.out] at e6
        refine ⟨by rw [hu.1], (appendD s ⟨0, List.replicate i (zer L), i * nd⟩ (zer L)).1, ⟨hu.2.1, hu.2.2.2.1.trans u2, by have := hu.2.2.2.2.1; omega⟩, ⟨v2, (fun k => ok' k ∨ wr.heap.size ≤ k), ?_, ?_, hbl.trans (hk.to_below hs.own hs.le)⟩, CB.kp HC.out hk (fun ad e _ => by cases e; exact hno), Nat.lt_of_lt_of_le HLT.out hk.size⟩
        · rw [e6] at h2
          rw [List.replicate_succ', ← hit2]
          exact h2
        · have := HLT.out
          rintro (e | e | e | e | e | e)
          · exact hno (.inl e)
          · exact hno (.inr (.inl e))
          · exact hno (.inr (.inr (.inl e)))
          · exact hno (.inr (.inr (.inr (.inl e))))
          · exact hno (.inr (.inr (.inr (.inr e))))
          · omega)
      go_wp2_with (go_at_call 13; refine HAP.out.mono ?_; rintro e w3 ⟨rfl, s3, hu3, hg3, hc3, hl3⟩; have HU3 := Lib.hid hu3; have HG3 := Lib.hid hg3; have HC3 := Lib.hid hc3; have HL3 := Lib.hid hl3; clear hu3 hg3 hc3 hl3)
      go_roundg (mm - (i + 1))
      case measure => omega
      case rel => exact ⟨i + 1, by omega, by omega, by go_num, s3, HU3, HG3, HC3, HL3⟩
    · have hltz : ¬ ((i : Int) < (mm : Int)) := by omega
      have him : i = mm := by omega
      subst him
      have HAP := Lib.hid (show Calls Tryd.prog 13 #[.pointer (some ⟨q, 0, none⟩), .slice (some ⟨gb, 0, none⟩) L L] wr (fun e w' => e = .returned (.int .i64 51) ∧ (∃ v' ok', SYS W.heap.size w' p g cap m q s ⟨0, List.replicate i (zer L), i * nd⟩ v' ok' ∧ ¬ Own p g m q ok' gb ∧ Below W.heap.size W w') ∧ CB w' (some ⟨gb, 0, none⟩) L (zer L) ∧ gb < w'.heap.size) from by
        obtain ⟨v', ok', hs, hno, hbl⟩ := HG.out
        obtain ⟨u1, u2, u3⟩ := HU.out
        have hit2 : i * nd + nd = (i + 1) * nd := by rw [Nat.add_mul, Nat.one_mul]
        have hu := append_full (s := s) (G := ⟨0, List.replicate i (zer L), i * nd⟩) (b := zer L) (by rw [zer_len]; omega) (by rw [u2, HHF.out, zer_len, HND.out]; show H < nd + i * nd; have := HM2.out; omega)
        have hap := hs.append (c := L) (by omega) (show (0 : Nat) ≤ 1 by decide) (by show i * nd ≤ 100000; have := HM1.out; omega) (by show (List.replicate i (zer L)).length ≤ _; rw [List.length_replicate]; omega) (zer L) (by rw [zer_len]; exact HC.out) (zer_range _) (by rw [zer_len]; omega) (fun ad e _ => by cases e; exact ⟨fun e => hno (.inl e), fun e => hno (.inr (.inl e)), fun e => hno (.inr (.inr (.inl e)))⟩)
        rw [zer_len, hu] at hap
        refine hap.mono ?_
        rintro e w' ⟨rfl, ⟨v2, h2⟩, hk⟩
        refine ⟨rfl, ⟨v2, _, h2, ?_, hbl.trans (hk.to_below hs.own hs.le)⟩, CB.kp HC.out hk (fun ad e _ => by cases e; exact hno), Nat.lt_of_lt_of_le HLT.out hk.size⟩
        have := HLT.out
        rintro (e | e | e | e | e | e)
        · exact hno (.inl e)
        · exact hno (.inr (.inl e))
        · exact hno (.inr (.inr (.inl e)))
        · exact hno (.inr (.inr (.inr (.inl e))))
        · exact hno (.inr (.inr (.inr (.inr e))))
        · omega)
      go_upto_region 16 with (go_at_call 13; refine HAP.out.mono ?_; rintro e w3 ⟨rfl, ⟨v3, ok3, hs3, hno3, hb3⟩, hc3, hl3⟩; have HS3 := Lib.hid hs3; have HN3 := Lib.hid hno3; have HB3 := Lib.hid hb3; have HC3 := Lib.hid hc3; clear hs3 hno3 hb3 hc3 hl3)
      have HRC := Lib.hid (records_calls HS3.out.lg (by show (List.replicate i (zer L)).length ≤ _; rw [List.length_replicate]; omega) (fun x hx => by rw [List.eq_of_mem_replicate hx, zer_len]; omega))
      go_upto_region 17 with (go_at_call 12; refine HRC.out.mono ?_; rintro e w4 ⟨v4, rfl, hr4, hb4⟩; obtain ⟨A4, c4, rfl⟩ := Kd.R_slice hr4; (rw [List.length_replicate]); have HB4 := Lib.hid hb4; clear hr4 hb4)
      have HS4 := Lib.hid (HS3.out.below HB4.out)
      have HC4 := Lib.hid (Kd.C_below HC3.out HB4.out)
      have HBW4 := Lib.hid (below_step HB3.out HB4.out)
      have hS4 : ∀ e w', (e = Ending.returned (Value.int .i64 (startD s ⟨0, List.replicate i (zer L), i * nd⟩ (zer L)).2.1) ∧ (∃ v', SYS W.heap.size w' p g cap m q (startD s ⟨0, List.replicate i (zer L), i * nd⟩ (zer L)).1 (startD s ⟨0, List.replicate i (zer L), i * nd⟩ (zer L)).2.2 v' (fun k => ok3 k ∨ w4.heap.size ≤ k)) ∧ Kp w4 w' (Own p g m q ok3)) → Below W.heap.size W w' := fun e w' h => HBW4.out.trans (h.2.2.to_below HS4.out.own HS4.out.le)
      have HST := Lib.hid (show Calls Tryd.prog 16 #[.pointer (some ⟨q, 0, none⟩), .slice (some ⟨gb, 0, none⟩) L L] w4 (fun e w' => (e = Ending.returned (Value.int .i64 (startD s ⟨0, List.replicate i (zer L), i * nd⟩ (zer L)).2.1) ∧ (∃ v', SYS W.heap.size w' p g cap m q (startD s ⟨0, List.replicate i (zer L), i * nd⟩ (zer L)).1 (startD s ⟨0, List.replicate i (zer L), i * nd⟩ (zer L)).2.2 v' (fun k => ok3 k ∨ w4.heap.size ≤ k)) ∧ Kp w4 w' (Own p g m q ok3))) from by
        obtain ⟨u1, u2, u3⟩ := HU.out
        have hap := HS4.out.start (c := L) (by omega) (show (0 : Nat) ≤ 1 by decide) (by show i * nd ≤ 100000; have := HM1.out; omega) (zer L) (by rw [zer_len]; exact HC4.out) (zer_range _) (by rw [zer_len]; omega) (fun ad e _ => by cases e; exact ⟨fun e => HN3.out (.inl e), fun e => HN3.out (.inr (.inl e)), fun e => HN3.out (.inr (.inr (.inl e)))⟩)
        rw [zer_len] at hap
        exact hap)
      by_cases hi0 : i = 0
      · have hsf : startD s ⟨0, List.replicate i (zer L), i * nd⟩ (zer L) = (s, 51, ⟨0, List.replicate i (zer L), i * nd⟩) := start_full (by rw [zer_len]; omega) (by rw [HU.out.2.1, HHF.out, zer_len, HND.out]; have := HM2.out; rw [hi0] at this; omega)
        have hiz : (i : Int) = 0 := by omega
        rw [hsf] at HST hS4
        go_wp2_with (go_at_call 16; refine HST.out.mono ?_; intro e w5 h5; have HB5 := Lib.hid (hS4 e w5 h5); obtain ⟨rfl, _, _⟩ := h5)
        go_ret
        exact ⟨rfl, HB5.out⟩
      · have hsf := up_start (G := ⟨0, List.replicate i (zer L), i * nd⟩) HU.out.1 HS4.out.o (by rw [HU.out.2.1]; omega) (show (0 : Nat) ≤ 1 by decide) (b := zer L) (zer_range _) (by rw [zer_len]; omega) (by
          rw [HU.out.2.1, HHF.out, zer_len, HND.out]
          have := HM1.out
          have h1 : 1 * nd ≤ i * nd := Nat.mul_le_mul_right nd (by omega)
          omega)
        have hiz : ¬ ((i : Int) = 0) := by omega
        rw [hsf.1, hsf.2.2] at HST hS4
        obtain ⟨s5, hs5⟩ : ∃ s5, (startD s ⟨0, List.replicate i (zer L), i * nd⟩ (zer L)).1 = s5 := ⟨_, rfl⟩
        rw [hs5] at HST hS4
        clear hsf hs5
        go_wp2_with (first
          | (go_at_call 16; refine HST.out.mono ?_; intro e w5 h5; have HB5 := Lib.hid (hS4 e w5 h5); obtain ⟨rfl, ⟨v5, hs5⟩, _⟩ := h5; have HRC5 := Lib.hid (records_calls hs5.lg (show (1 : Nat) ≤ 100000 by decide) (fun x hx => by rw [List.mem_singleton.1 hx, zer_len]; omega)); clear hs5)
          | (go_at_call 12; refine HRC5.out.mono ?_; rintro e w6 ⟨v6, rfl, hr6, hb6⟩; obtain ⟨A6, c6, rfl⟩ := Kd.R_slice hr6; have HB6 := Lib.hid (below_step HB5.out hb6); clear hr6 hb6))
        go_ret
        exact ⟨rfl, HB6.out⟩
end
end Go.Proofs.YtnobhjpobnmiaaaDoor.Wl
