/- The row of the law WalAgain, over its walk and its pure statement. -/
import Derived.Test.YtnobhjpobnmiaaaDoorWl19
import Derived.Deep.Slices
import Derived.ChangeArms
import Derived.RowKit
import Derived.SizedLaws
import Derived.LaidMore
import Derived.Stop.Joined
import Derived.Stop.LaidErr
import Derived.MakeChecks
import Derived.Lay
import Derived.SevenTiedAt
import Derived.Test.YtnobhjpobnmiaaaDoorCards
import Derived.Test.YtnobhjpobnmiaaaDoorTie
import Derived.Test.YtnobhjpobnmiaaaDoorRows
import Derived.WalkKit
import Derived.ProofKit
import Derived.OpenShut
import Derived.ShutString
import Derived.ChangeOld
import Derived.Below
import Derived.Carry
/- WalAgain: the law walked. -/
namespace Go.Proofs.YtnobhjpobnmiaaaDoor.Wl
open Go Go.RowKit Go.Maps Go.Proofs Go.Proofs.YtnobhjpobnmiaaaDoor.Sk Go.Proofs.YtnobhjpobnmiaaaDoorW.PrintWords Go.Proofs.YtnobhjpobnmiaaaDoorW.PrintLast Go.Proofs.YtnobhjpobnmiaaaDoorW.PrintMore
set_option linter.unusedVariables false
set_option linter.unusedSimpArgs false

/-- the disk's state between a law's calls -/
structure Well (n : Nat) (s : D) (a : Nat) (l : List By) (t k : Nat) : Prop where
  calm : Calm s
  good : Good s.b a l t
  clean : Clean s.b a t
  len : s.b.length = n * 16
  acts : s.acts ≤ k
section
variable {B : Nat} {W W' w : World} {p g cap m q : Nat} {s : D} {G : LS} {v : Value} {ok : Nat → Prop}
set_option maxHeartbeats 16000000 in
set_option maxRecDepth 100000 in
theorem walAgain_walk (x : Int) (x0 : 0 ≤ x) (x1 : x ≤ 65535) (A : Option Addr) (c : Nat) (ls : List By) (hls : Kd.C kB W A ls.length ls) (hr : ∀ y ∈ ls, ∀ u ∈ y, 0 ≤ u ∧ u ≤ 255) : Calls Tryd.prog 5 #[.int .u16 x, .slice A ls.length c] W fun e w' => e = .returned (.bool true) ∧ Below W.heap.size W w' := by
  obtain ⟨n, hn⟩ : ∃ n : Nat, 3 + x % 300 = (n : Int) := ⟨(3 + x % 300).toNat, by omega⟩
  have hn1 : 3 ≤ n ∧ n ≤ 302 := by omega
  have HH := Lib.hid (head_walk W)
  have HBG := Lib.hid (fun w => begin_calls n (by omega) (by omega) w)
  have HNX := Lib.hid hn
  have HLS := Lib.hid hls
  have HRR := Lib.hid hr
  obtain ⟨N, hN⟩ : ∃ N, ls.length = N := ⟨_, rfl⟩
  have HNL := Lib.hid hN
  have hN9 : (N : Int) ≤ 9223372036854775807 := by have := hls.2.1; omega
  rw [hN] at HLS ⊢
  clear hn hls hr hN
  go_enter Tryd.func5, Tryd.ntmps5
  go_upto_region 2 with (go_at_call 9; refine HH.out.mono ?_; rintro e w0 ⟨rfl, hb⟩; have HB0 := Lib.hid hb; clear hb)
  have hnx := HNX.out
  go_upto_region 5 with (go_at_call 15; refine (HBG.out _).mono ?_; rintro e w1 ⟨p, g, cap, m, q, v, ok, rfl, hy, hb⟩; have HY := Lib.hid (SYS.bound hy); have HB := Lib.hid (below_step HB0.out hb); clear hy hb)
  clear hnx
  by_cases h60 : 60 < N
  · have h60z : (N : Int) > 60 := by omega
    go_wp2_with fail
    go_ret
    exact ⟨rfl, HB.out⟩
  · have h60z : ¬ ((N : Int) > 60) := by omega
    have HSB := Lib.hid (show W.heap.size ≤ w0.heap.size from HB0.out.size)
    have HG0 := Lib.hid (show ∃ s t l v' ok', Well n s 0 l t (4 * 0) ∧ SYS W.heap.size w1 p g cap m q s ⟨0, l, t⟩ v' ok' ∧ l.length ≤ 0 ∧ (∀ y ∈ l, (∀ u ∈ y, 0 ≤ u ∧ u ≤ 255) ∧ y.length ≤ 6000) from
      ⟨made (zer (n * 16)), 0, [], v, _, ⟨⟨made_up n, rfl⟩, made_good n hn1.1, made_clean n hn1.1, zer_len _, Nat.le_refl _⟩, ⟨HY.out.sr, HY.out.o, HY.out.lb, fun k hk => by have := HY.out.hok k hk; exact ⟨Nat.le_trans HSB.out this.1, this.2⟩, by have := HY.out.hB; have := HSB.out; omega⟩, Nat.le_refl _, fun y hy => by cases hy⟩)
    go_upto_block 0 with (fail)
    go_wp2_with fail
    go_loopg [9] N (fun gg s9 wr => ∃ i : Nat, i ≤ N ∧ N - i ≤ gg ∧ s9 = .int .i64 i ∧ Hid (∃ s t l v' ok', Well n s 0 l t (4 * i) ∧ SYS W.heap.size wr p g cap m q s ⟨0, l, t⟩ v' ok' ∧ l.length ≤ i ∧ (∀ y ∈ l, (∀ u ∈ y, 0 ≤ u ∧ u ≤ 255) ∧ y.length ≤ 6000)) ∧ Hid (Below W.heap.size W wr))
    case atStart => exact ⟨0, Nat.zero_le _, by omega, rfl, HG0, HB⟩
    case round =>
      obtain ⟨i, hi, hgg, rfl, HG, HBW⟩ := hrel
      by_cases hlt : i < N
      · have hltz : (i : Int) < (N : Int) := by omega
        obtain ⟨y, hy⟩ : ∃ y, ls[i]? = some y := ⟨_, List.getElem?_eq_getElem (by rw [HNL.out]; exact hlt)⟩
        obtain ⟨ad, A', c', ea, hcell, hyc, hcb⟩ := rows_at HLS.out hy
        have hcell1 := cell_keep0 HBW.out hcell
        have HCB := Lib.hid hcb
        have HYC := Lib.hid hyc
        have HYR := Lib.hid (HRR.out y (List.mem_of_getElem? hy))
        obtain ⟨ny, hny⟩ : ∃ ny, y.length = ny := ⟨_, rfl⟩
        have HNY := Lib.hid hny
        have HY9 := Lib.hid hcb.2.1
        have HCL := Lib.hid hcell
        rw [hny] at hcell1
        cases ea
        clear hy hcell hyc hcb hny
        by_cases hbig : 6000 < ny
        · have hbz : (ny : Int) > 6000 := by omega
          go_wp2_with fail
          go_ret
          exact ⟨rfl, HBW.out⟩
        · have hbz : ¬ ((ny : Int) > 6000) := by omega
          obtain ⟨s, t, l, v', ok', hw, hs, hll, hlr⟩ := HG.out
          have HW := Lib.hid hw
          have HS := Lib.hid hs
          have HLL := Lib.hid hll
          have HLR := Lib.hid hlr
          have HTH := Lib.hid (show t ≤ 2048 from Nat.le_trans hw.good.th (half_le (by rw [hw.len]; omega)))
          clear hw hs hll hlr
          have HRC := Lib.hid (records_calls HS.out.lg (by show l.length ≤ _; have := HLL.out; omega) (fun z hz => by have := (HLR.out z hz).2; omega))
          go_upto_region 13 with (go_at_call 12; (with_reducible refine HRC.out.mono ?_); rintro e w2 ⟨v2, rfl, hr2, hb2⟩; have HR2 := Lib.hid hr2; have HB2 := Lib.hid hb2; clear hr2 hb2)
          -- ROUND
          have HS2 := Lib.hid ((HS.out.bound).below HB2.out)
          have HN2 := Lib.hid ((nb_of_rb (b0 := W.heap.size) HS.out HR2.out).resolve_right (by have := HS.out.le; omega))
          obtain ⟨H, hH⟩ : ∃ H, half s.b.length = H := ⟨_, rfl⟩
          obtain ⟨rm, hrm⟩ : ∃ rm, roomN H t = rm := ⟨_, rfl⟩
          have HHH := Lib.hid hH
          have HRMV := Lib.hid hrm
          have HRM := Lib.hid (by have := room_calls HS2.out.lg HS2.out.sr HS2.out.o (show t ≤ 1000000 by have := HTH.out; omega); rw [hH, hrm] at this; exact this : Calls Tryd.prog 17 #[.pointer (some ⟨q, 0, none⟩)] w2 fun e w' => e = .returned (.int .i64 rm) ∧ Below w2.heap.size w2 w')
          clear hH hrm
          go_upto_region 14 with (go_at_call 17; (with_reducible refine HRM.out.mono ?_); rintro e w3 ⟨rfl, hb3⟩; have HB3 := Lib.hid hb3; clear hb3)
          have HS3 := Lib.hid (HS2.out.below HB3.out)
          have HN3 := Lib.hid (Kd.N_below HN2.out HB3.out)
          have HBW3 := Lib.hid (below_step HBW.out (below_step HB2.out HB3.out))
          have hcell3 := cell_keep0 (below_step HB2.out HB3.out) hcell1
          have HA' := Lib.hid (fun ad' (e : A' = some ad') (h0 : 0 < y.length) => (by
            have h1 := cb_lt HCB.out ad' e h0
            have := HS3.out.hB
            exact ⟨by omega, by omega, by omega⟩ : ad'.block ≠ p ∧ ad'.block ≠ g ∧ ad'.block ≠ m))
          have HAPP := Lib.hid (by
            have := HS3.out.append (c := c') (by have := HW.out.acts; omega) (show (0 : Nat) ≤ 1 by decide) (by show t ≤ _; have := HTH.out; omega) (by show l.length ≤ _; have := HLL.out; omega) y (Kd.C_below HCB.out HBW3.out) HYR.out (by rw [HNY.out]; omega) HA'.out
            rw [HNY.out] at this
            exact this : Calls Tryd.prog 13 #[.pointer (some ⟨q, 0, none⟩), .slice A' ny c'] w3 fun e w' => e = .returned (.int .i64 (appendD s ⟨0, l, t⟩ y).2.1) ∧ (∃ v'', SYS W.heap.size w' p g cap m q (appendD s ⟨0, l, t⟩ y).1 (appendD s ⟨0, l, t⟩ y).2.2 v'' (fun k => (ok' k ∧ k < wr.heap.size) ∨ w3.heap.size ≤ k)) ∧ Kp w3 w' (Own p g m q (fun k => ok' k ∧ k < wr.heap.size)))
          by_cases hfit : t + need ny ≤ H
          · obtain ⟨s1, e1, k1, k2, k3, k4, k5, k6⟩ := calm_append HS3.out.o HW.out.calm HW.out.good HW.out.clean HYR.out (show y.length ≤ 16384 by rw [HNY.out]; omega) (by rw [HNY.out, HHH.out]; exact hfit)
            have HW5 := Lib.hid (show Well n s1 0 (l ++ [y]) (t + need y.length) (4 * (i + 1)) from ⟨k1, k3, k4, k5.trans HW.out.len, by have := HW.out.acts; omega⟩)
            have hrz : ¬ ((ny : Int) > rm) := by have := room_fits hfit (by omega : ny ≤ 6000); rw [HRMV.out] at this; omega
            rw [e1] at HAPP
            clear e1 k1 k2 k3 k4 k5 k6 hfit
            go_upto_region 16 with (go_at_call 13; (with_reducible refine HAPP.out.mono ?_); rintro e w4 ⟨rfl, ⟨v4, hs4⟩, hk4⟩; have HS4 := Lib.hid hs4; have HK4 := Lib.hid hk4; clear hs4 hk4)
            have HN4 := Lib.hid (Kd.N_mono (nb_kp HN3.out HK4.out) (fun k hk (h : Own p g m q (fun k => ((ok' k ∧ k < wr.heap.size) ∨ w3.heap.size ≤ k) ∧ k < w4.heap.size) k) => hk (by
              rcases h with e | e | e | e | e
              · exact .inl e
              · exact .inr (.inl e)
              · exact .inr (.inr (.inl e))
              · exact .inr (.inr (.inr (.inl e)))
              · exact .inr (.inr (.inr (.inr e.1))))))
            have HS4b := Lib.hid HS4.out.bound
            have HBW4 := Lib.hid (HBW3.out.trans (HK4.out.to_below HS3.out.own HS3.out.le))
            have hcell4 := (by have := cell_keep0 HBW4.out HCL.out; rw [HNY.out] at this; exact this : w4.cell? (ad.add i) = some (.slice A' ny c'))
            have HLL5 := Lib.hid (show (l ++ [y]).length ≤ i + 1 by rw [List.length_append]; have := HLL.out; show l.length + 1 ≤ _; omega)
            have HLR5 := Lib.hid (show ∀ z ∈ l ++ [y], (∀ u ∈ z, 0 ≤ u ∧ u ≤ 255) ∧ z.length ≤ 6000 from fun z hz => by
              rcases List.mem_append.1 hz with hz | hz
              · exact HLR.out z hz
              · rw [List.mem_singleton.1 hz]; exact ⟨HYR.out, by rw [HNY.out]; omega⟩)
            have HFK := Lib.hid (by have := fk_arg HCB.out HYC.out HBW4.out; rw [HNY.out] at this; exact this : Kd.FK (Kd.slice 5 (Kd.int .u8)) w4 (fun k => k < W.heap.size) y [.slice A' ny c'])
            clear hcell1 hcell3
            go_upto_region 17 with (at_builtin; refine nb_append (W := w4) (w0 := w4) (b0 := W.heap.size) rfl (.tmp 57) (.tmp 62) rfl rfl rfl HFK.out (fun k hk => ⟨fun h => by have := HS4b.out.own k h; omega, fun e => by have := Kd.N_base HN4.out k e.symm; omega⟩) (fun k hk h => by
              have h1 := HS4b.out.sr.lt
              have h2 := blk_lt HS4b.out.lb.blk
              rcases h with e | e | e | e | ⟨_, e⟩ <;> omega) HN4.out ⟨rfl, rfl, rfl, Nat.le_refl _, fun _ _ => rfl⟩ HBW4.out.size (by have := HLL.out; omega) ?_; intro v5 w5 hn5 hg5; have HN5 := Lib.hid hn5; have HS5 := Lib.hid (HS4b.out.keep (fun k hk hlt => hg5.block k hlt (fun e => HN4.out.1 k e.symm hk))); have HBW5 := Lib.hid (HBW4.out.trans (show Below W.heap.size w4 w5 from ⟨hg5.os, hg5.tape, hg5.output, hg5.size, fun k hk => hg5.block k (Nat.lt_of_lt_of_le hk HBW4.out.size) (fun e => by have := Kd.N_base HN4.out k e.symm; omega)⟩)); clear hn5 hg5)
            have hcell5 := (by have := cell_keep0 HBW5.out HCL.out; rw [HNY.out] at this; exact this : w5.cell? (ad.add i) = some (.slice A' ny c'))
            clear hcell4
            have HCK := Lib.hid (fun w' (hb : Below w5.heap.size w5 w') => cell_keep0 hb hcell5)
            obtain ⟨A5, c5, rfl⟩ := Kd.N_slice HN5.out
            have HC5 := Lib.hid (Kd.N_reads' HN5.out).2.2
            have HRC5 := Lib.hid (records_calls HS5.out.lg (by show (l ++ [y]).length ≤ _; have := HLL5.out; omega) (fun z hz => by have := (HLR5.out z hz).2; omega))
            obtain ⟨n5, hn5⟩ : ∃ n5, (l ++ [y]).length = n5 := ⟨_, rfl⟩
            have HN5L := Lib.hid hn5
            rw [hn5] at HC5 ⊢
            have HSM := Lib.hid (fun (w6 : World) (A6 : Option Addr) (c6 : Nat) (hb : Below w5.heap.size w5 w6) (h6 : Kd.C kB w6 A6 n5 (l ++ [y])) => (by
              have := same_calls A6 A5 c6 c5 (l ++ [y]) (l ++ [y]) (by rw [hn5]; exact h6) (by rw [hn5]; exact Kd.C_below HC5.out hb) (fun z hz => (HLR5.out z hz).1) (fun z hz => (HLR5.out z hz).1)
              rw [hn5, decide_eq_true rfl] at this
              exact this : Calls Tryd.prog 14 #[.slice A6 n5 c6, .slice A5 n5 c5] w6 fun e w' => e = .returned (.bool true) ∧ Below w6.heap.size w6 w'))
            clear hn5
            go_upto_region 19 with (first
              | (go_at_call 12; (with_reducible refine HRC5.out.mono ?_); rintro e w6 ⟨v6, rfl, hr6, hb6⟩; obtain ⟨A6, c6, rfl⟩ := Kd.R_slice hr6; have HC6 := Lib.hid (Kd.R_reads' hr6).2.2; have HB6 := Lib.hid hb6; rw [HN5L.out] at HC6; (rw [HN5L.out]); clear hr6 hb6)
              | (go_at_call 14; (with_reducible refine (HSM.out _ _ _ HB6.out HC6.out).mono ?_); rintro e w7 ⟨rfl, hb7⟩; have HB7 := Lib.hid (below_step HB6.out hb7); have hcell7 := HCK.out _ HB7.out; clear hb7))
            have HS7 := Lib.hid (HS5.out.below HB7.out)
            have HC7 := Lib.hid (Kd.C_below HC5.out HB7.out)
            have HBW7 := Lib.hid (below_step HBW5.out HB7.out)
            obtain ⟨ac, hac⟩ : ∃ ac, s1.acts = ac := ⟨_, rfl⟩
            have HAC := Lib.hid (fun w' (hr : SR w' p g cap m s1) => (by have := acts_calls hr; rw [hac] at this; exact this : Calls Tryd.prog 18 #[.pointer (some ⟨p, 0, none⟩)] w' fun e w2 => e = .returned (.int .i64 (ac : Int)) ∧ w2 = w'))
            have HACE := Lib.hid hac
            clear hac
            have HOP := Lib.hid (open_still (B := W.heap.size) HS7.out.sr HS7.out.o (by have := HW5.out.acts; omega) ⟨HS7.out.hB.1, HS7.out.hB.2.1, HS7.out.hB.2.2.1⟩ (open_good HW5.out.calm.up.down HW5.out.good HW5.out.clean (by rw [HW5.out.len]; omega)))
            go_upto_region 21 with (first
              | (go_at_call 18; (with_reducible refine (HAC.out _ HS7.out.sr).mono ?_); rintro e w' ⟨rfl, rfl⟩)
              | (go_at_call 11; (with_reducible refine HOP.out.mono ?_); rintro e w8 ⟨q2, v8, rfl, _, hy8, hf8⟩; have HY8 := Lib.hid hy8; have HF8 := Lib.hid hf8; clear hy8 hf8))
            have HS8 := Lib.hid (HS7.out.opened HY8.out.sr HF8.out)
            have HBW8 := Lib.hid (HBW7.out.trans (HF8.out.to_below HS7.out.hB.1 HS7.out.hB.2.1 HS7.out.hB.2.2.1 HS7.out.le))
            have HC8 := Lib.hid (show Kd.C kB w8 A5 n5 (l ++ [y]) from by
              have hN7 := Kd.N_below HN5.out HB7.out
              have hN8 := Kd.N_step hN7 (fun k hk hlt => HF8.out.block k hlt (fun e => hk (.inl e)) (fun e => hk (.inr (.inl e))) (fun e => hk (.inr (.inr (.inl e)))))
              have := (Kd.N_reads' hN8).2.2
              rw [HN5L.out] at this
              exact this)
            have HRC8 := Lib.hid (records_calls HY8.out.lg (by show (l ++ [y]).length ≤ _; have := HLL5.out; omega) (fun z hz => by have := (HLR5.out z hz).2; omega))
            have HSM8 := Lib.hid (fun (w9 : World) (A9 : Option Addr) (c9 : Nat) (hb : Below w8.heap.size w8 w9) (h9 : Kd.C kB w9 A9 n5 (l ++ [y])) => (by
              have := same_calls A9 A5 c9 c5 (l ++ [y]) (l ++ [y]) (by rw [HN5L.out]; exact h9) (by rw [HN5L.out]; exact Kd.C_below HC8.out hb) (fun z hz => (HLR5.out z hz).1) (fun z hz => (HLR5.out z hz).1)
              rw [HN5L.out, decide_eq_true rfl] at this
              exact this : Calls Tryd.prog 14 #[.slice A9 n5 c9, .slice A5 n5 c5] w9 fun e w' => e = .returned (.bool true) ∧ Below w9.heap.size w9 w'))
            go_wp2_with (first
              | (go_at_call 12; (with_reducible refine HRC8.out.mono ?_); rintro e w9 ⟨v9, rfl, hr9, hb9⟩; obtain ⟨A9, c9, rfl⟩ := Kd.R_slice hr9; have HC9 := Lib.hid (Kd.R_reads' hr9).2.2; have HB9 := Lib.hid hb9; rw [HN5L.out] at HC9; (rw [HN5L.out]); clear hr9 hb9)
              | (go_at_call 14; (with_reducible refine (HSM8.out _ _ _ HB9.out HC9.out).mono ?_); rintro e wx ⟨rfl, hbx⟩; have HBX := Lib.hid (below_step HB9.out hbx); clear hbx)
              | (go_at_call 18; (with_reducible refine (HAC.out _ (HS8.out.sr.below HBX.out)).mono ?_); rintro e w' ⟨rfl, rfl⟩))
            go_roundg (N - (i + 1))
            case measure => omega
            case rel => exact ⟨i + 1, by omega, by omega, by go_num, Lib.hid ⟨_, _, _, _, _, HW5.out, HS8.out.below HBX.out, HLL5.out, HLR5.out⟩, Lib.hid (below_step HBW8.out HBX.out)⟩
          · have hfn := append_full (s := s) (G := ⟨0, l, t⟩) (b := y) (by rw [HNY.out]; omega) (by rw [HHH.out, HNY.out]; show H < need ny + t; omega)
            have HW5 := Lib.hid (show Well n s 0 l t (4 * (i + 1)) from ⟨HW.out.calm, HW.out.good, HW.out.clean, HW.out.len, by have := HW.out.acts; omega⟩)
            have HRN := Lib.hid (fun (h : 0 < ny) => (by have := room_not (H := H) (t := t) (n := ny) (by omega) h; rw [HRMV.out] at this; exact this : ¬ ((ny : Int) ≤ rm)))
            rw [hfn] at HAPP
            have HLL5 := Lib.hid (show l.length ≤ i + 1 by have := HLL.out; omega)
            have HLR5 := HLR
            clear hfn hfit hcell1
            go_upto_region 17 with (go_at_call 13; (with_reducible refine HAPP.out.mono ?_); rintro e w5 ⟨rfl, ⟨v4, hs4⟩, hk4⟩; have HS5 := Lib.hid hs4; have HK4 := Lib.hid hk4; clear hs4 hk4)
            have HN5 := Lib.hid (nb_kp HN3.out HK4.out)
            have HBW5 := Lib.hid (HBW3.out.trans (HK4.out.to_below HS3.out.own HS3.out.le))
            have hcell5 := (by have := cell_keep0 HBW5.out HCL.out; rw [HNY.out] at this; exact this : w5.cell? (ad.add i) = some (.slice A' ny c'))
            clear hcell3
            have HCK := Lib.hid (fun w' (hb : Below w5.heap.size w5 w') => cell_keep0 hb hcell5)
            by_cases hp0 : 0 < ny
            · have hpz : (ny : Int) > 0 := by omega
              have hqz := HRN.out hp0
              obtain ⟨A5, c5, rfl⟩ := Kd.N_slice HN5.out
              have HC5 := Lib.hid (Kd.N_reads' HN5.out).2.2
              have HRC5 := Lib.hid (records_calls HS5.out.lg (by show (l).length ≤ _; have := HLL5.out; omega) (fun z hz => by have := (HLR5.out z hz).2; omega))
              obtain ⟨n5, hn5⟩ : ∃ n5, (l).length = n5 := ⟨_, rfl⟩
              have HN5L := Lib.hid hn5
              rw [hn5] at HC5 ⊢
              have HSM := Lib.hid (fun (w6 : World) (A6 : Option Addr) (c6 : Nat) (hb : Below w5.heap.size w5 w6) (h6 : Kd.C kB w6 A6 n5 (l)) => (by
                have := same_calls A6 A5 c6 c5 (l) (l) (by rw [hn5]; exact h6) (by rw [hn5]; exact Kd.C_below HC5.out hb) (fun z hz => (HLR5.out z hz).1) (fun z hz => (HLR5.out z hz).1)
                rw [hn5, decide_eq_true rfl] at this
                exact this : Calls Tryd.prog 14 #[.slice A6 n5 c6, .slice A5 n5 c5] w6 fun e w' => e = .returned (.bool true) ∧ Below w6.heap.size w6 w'))
              clear hn5
              go_upto_region 19 with (first
                | (go_at_call 12; (with_reducible refine HRC5.out.mono ?_); rintro e w6 ⟨v6, rfl, hr6, hb6⟩; obtain ⟨A6, c6, rfl⟩ := Kd.R_slice hr6; have HC6 := Lib.hid (Kd.R_reads' hr6).2.2; have HB6 := Lib.hid hb6; rw [HN5L.out] at HC6; (rw [HN5L.out]); clear hr6 hb6)
                | (go_at_call 14; (with_reducible refine (HSM.out _ _ _ HB6.out HC6.out).mono ?_); rintro e w7 ⟨rfl, hb7⟩; have HB7 := Lib.hid (below_step HB6.out hb7); have hcell7 := HCK.out _ HB7.out; clear hb7))
              have HS7 := Lib.hid (HS5.out.below HB7.out)
              have HC7 := Lib.hid (Kd.C_below HC5.out HB7.out)
              have HBW7 := Lib.hid (below_step HBW5.out HB7.out)
              obtain ⟨ac, hac⟩ : ∃ ac, s.acts = ac := ⟨_, rfl⟩
              have HAC := Lib.hid (fun w' (hr : SR w' p g cap m s) => (by have := acts_calls hr; rw [hac] at this; exact this : Calls Tryd.prog 18 #[.pointer (some ⟨p, 0, none⟩)] w' fun e w2 => e = .returned (.int .i64 (ac : Int)) ∧ w2 = w'))
              have HACE := Lib.hid hac
              clear hac
              have HOP := Lib.hid (open_still (B := W.heap.size) HS7.out.sr HS7.out.o (by have := HW5.out.acts; omega) ⟨HS7.out.hB.1, HS7.out.hB.2.1, HS7.out.hB.2.2.1⟩ (open_good HW5.out.calm.up.down HW5.out.good HW5.out.clean (by rw [HW5.out.len]; omega)))
              go_upto_region 21 with (first
                | (go_at_call 18; (with_reducible refine (HAC.out _ HS7.out.sr).mono ?_); rintro e w' ⟨rfl, rfl⟩)
                | (go_at_call 11; (with_reducible refine HOP.out.mono ?_); rintro e w8 ⟨q2, v8, rfl, _, hy8, hf8⟩; have HY8 := Lib.hid hy8; have HF8 := Lib.hid hf8; clear hy8 hf8))
              have HS8 := Lib.hid (HS7.out.opened HY8.out.sr HF8.out)
              have HBW8 := Lib.hid (HBW7.out.trans (HF8.out.to_below HS7.out.hB.1 HS7.out.hB.2.1 HS7.out.hB.2.2.1 HS7.out.le))
              have HC8 := Lib.hid (show Kd.C kB w8 A5 n5 (l) from by
                have hN7 := Kd.N_below HN5.out HB7.out
                have hN8 := Kd.N_step hN7 (fun k hk hlt => HF8.out.block k hlt (fun e => hk (.inl e)) (fun e => hk (.inr (.inl e))) (fun e => hk (.inr (.inr (.inl e)))))
                have := (Kd.N_reads' hN8).2.2
                rw [HN5L.out] at this
                exact this)
              have HRC8 := Lib.hid (records_calls HY8.out.lg (by show (l).length ≤ _; have := HLL5.out; omega) (fun z hz => by have := (HLR5.out z hz).2; omega))
              have HSM8 := Lib.hid (fun (w9 : World) (A9 : Option Addr) (c9 : Nat) (hb : Below w8.heap.size w8 w9) (h9 : Kd.C kB w9 A9 n5 (l)) => (by
                have := same_calls A9 A5 c9 c5 (l) (l) (by rw [HN5L.out]; exact h9) (by rw [HN5L.out]; exact Kd.C_below HC8.out hb) (fun z hz => (HLR5.out z hz).1) (fun z hz => (HLR5.out z hz).1)
                rw [HN5L.out, decide_eq_true rfl] at this
                exact this : Calls Tryd.prog 14 #[.slice A9 n5 c9, .slice A5 n5 c5] w9 fun e w' => e = .returned (.bool true) ∧ Below w9.heap.size w9 w'))
              go_wp2_with (first
                | (go_at_call 12; (with_reducible refine HRC8.out.mono ?_); rintro e w9 ⟨v9, rfl, hr9, hb9⟩; obtain ⟨A9, c9, rfl⟩ := Kd.R_slice hr9; have HC9 := Lib.hid (Kd.R_reads' hr9).2.2; have HB9 := Lib.hid hb9; rw [HN5L.out] at HC9; (rw [HN5L.out]); clear hr9 hb9)
                | (go_at_call 14; (with_reducible refine (HSM8.out _ _ _ HB9.out HC9.out).mono ?_); rintro e wx ⟨rfl, hbx⟩; have HBX := Lib.hid (below_step HB9.out hbx); clear hbx)
                | (go_at_call 18; (with_reducible refine (HAC.out _ (HS8.out.sr.below HBX.out)).mono ?_); rintro e w' ⟨rfl, rfl⟩))
              go_roundg (N - (i + 1))
              case measure => omega
              case rel => exact ⟨i + 1, by omega, by omega, by go_num, Lib.hid ⟨_, _, _, _, _, HW5.out, HS8.out.below HBX.out, HLL5.out, HLR5.out⟩, Lib.hid (below_step HBW8.out HBX.out)⟩
            · have hpz : ¬ ((ny : Int) > 0) := by omega
              obtain ⟨A5, c5, rfl⟩ := Kd.N_slice HN5.out
              have HC5 := Lib.hid (Kd.N_reads' HN5.out).2.2
              have HRC5 := Lib.hid (records_calls HS5.out.lg (by show (l).length ≤ _; have := HLL5.out; omega) (fun z hz => by have := (HLR5.out z hz).2; omega))
              obtain ⟨n5, hn5⟩ : ∃ n5, (l).length = n5 := ⟨_, rfl⟩
              have HN5L := Lib.hid hn5
              rw [hn5] at HC5 ⊢
              have HSM := Lib.hid (fun (w6 : World) (A6 : Option Addr) (c6 : Nat) (hb : Below w5.heap.size w5 w6) (h6 : Kd.C kB w6 A6 n5 (l)) => (by
                have := same_calls A6 A5 c6 c5 (l) (l) (by rw [hn5]; exact h6) (by rw [hn5]; exact Kd.C_below HC5.out hb) (fun z hz => (HLR5.out z hz).1) (fun z hz => (HLR5.out z hz).1)
                rw [hn5, decide_eq_true rfl] at this
                exact this : Calls Tryd.prog 14 #[.slice A6 n5 c6, .slice A5 n5 c5] w6 fun e w' => e = .returned (.bool true) ∧ Below w6.heap.size w6 w'))
              clear hn5
              go_upto_region 19 with (first
                | (go_at_call 12; (with_reducible refine HRC5.out.mono ?_); rintro e w6 ⟨v6, rfl, hr6, hb6⟩; obtain ⟨A6, c6, rfl⟩ := Kd.R_slice hr6; have HC6 := Lib.hid (Kd.R_reads' hr6).2.2; have HB6 := Lib.hid hb6; rw [HN5L.out] at HC6; (rw [HN5L.out]); clear hr6 hb6)
                | (go_at_call 14; (with_reducible refine (HSM.out _ _ _ HB6.out HC6.out).mono ?_); rintro e w7 ⟨rfl, hb7⟩; have HB7 := Lib.hid (below_step HB6.out hb7); have hcell7 := HCK.out _ HB7.out; clear hb7))
              have HS7 := Lib.hid (HS5.out.below HB7.out)
              have HC7 := Lib.hid (Kd.C_below HC5.out HB7.out)
              have HBW7 := Lib.hid (below_step HBW5.out HB7.out)
              obtain ⟨ac, hac⟩ : ∃ ac, s.acts = ac := ⟨_, rfl⟩
              have HAC := Lib.hid (fun w' (hr : SR w' p g cap m s) => (by have := acts_calls hr; rw [hac] at this; exact this : Calls Tryd.prog 18 #[.pointer (some ⟨p, 0, none⟩)] w' fun e w2 => e = .returned (.int .i64 (ac : Int)) ∧ w2 = w'))
              have HACE := Lib.hid hac
              clear hac
              have HOP := Lib.hid (open_still (B := W.heap.size) HS7.out.sr HS7.out.o (by have := HW5.out.acts; omega) ⟨HS7.out.hB.1, HS7.out.hB.2.1, HS7.out.hB.2.2.1⟩ (open_good HW5.out.calm.up.down HW5.out.good HW5.out.clean (by rw [HW5.out.len]; omega)))
              go_upto_region 21 with (first
                | (go_at_call 18; (with_reducible refine (HAC.out _ HS7.out.sr).mono ?_); rintro e w' ⟨rfl, rfl⟩)
                | (go_at_call 11; (with_reducible refine HOP.out.mono ?_); rintro e w8 ⟨q2, v8, rfl, _, hy8, hf8⟩; have HY8 := Lib.hid hy8; have HF8 := Lib.hid hf8; clear hy8 hf8))
              have HS8 := Lib.hid (HS7.out.opened HY8.out.sr HF8.out)
              have HBW8 := Lib.hid (HBW7.out.trans (HF8.out.to_below HS7.out.hB.1 HS7.out.hB.2.1 HS7.out.hB.2.2.1 HS7.out.le))
              have HC8 := Lib.hid (show Kd.C kB w8 A5 n5 (l) from by
                have hN7 := Kd.N_below HN5.out HB7.out
                have hN8 := Kd.N_step hN7 (fun k hk hlt => HF8.out.block k hlt (fun e => hk (.inl e)) (fun e => hk (.inr (.inl e))) (fun e => hk (.inr (.inr (.inl e)))))
                have := (Kd.N_reads' hN8).2.2
                rw [HN5L.out] at this
                exact this)
              have HRC8 := Lib.hid (records_calls HY8.out.lg (by show (l).length ≤ _; have := HLL5.out; omega) (fun z hz => by have := (HLR5.out z hz).2; omega))
              have HSM8 := Lib.hid (fun (w9 : World) (A9 : Option Addr) (c9 : Nat) (hb : Below w8.heap.size w8 w9) (h9 : Kd.C kB w9 A9 n5 (l)) => (by
                have := same_calls A9 A5 c9 c5 (l) (l) (by rw [HN5L.out]; exact h9) (by rw [HN5L.out]; exact Kd.C_below HC8.out hb) (fun z hz => (HLR5.out z hz).1) (fun z hz => (HLR5.out z hz).1)
                rw [HN5L.out, decide_eq_true rfl] at this
                exact this : Calls Tryd.prog 14 #[.slice A9 n5 c9, .slice A5 n5 c5] w9 fun e w' => e = .returned (.bool true) ∧ Below w9.heap.size w9 w'))
              go_wp2_with (first
                | (go_at_call 12; (with_reducible refine HRC8.out.mono ?_); rintro e w9 ⟨v9, rfl, hr9, hb9⟩; obtain ⟨A9, c9, rfl⟩ := Kd.R_slice hr9; have HC9 := Lib.hid (Kd.R_reads' hr9).2.2; have HB9 := Lib.hid hb9; rw [HN5L.out] at HC9; (rw [HN5L.out]); clear hr9 hb9)
                | (go_at_call 14; (with_reducible refine (HSM8.out _ _ _ HB9.out HC9.out).mono ?_); rintro e wx ⟨rfl, hbx⟩; have HBX := Lib.hid (below_step HB9.out hbx); clear hbx)
                | (go_at_call 18; (with_reducible refine (HAC.out _ (HS8.out.sr.below HBX.out)).mono ?_); rintro e w' ⟨rfl, rfl⟩))
              go_roundg (N - (i + 1))
              case measure => omega
              case rel => exact ⟨i + 1, by omega, by omega, by go_num, Lib.hid ⟨_, _, _, _, _, HW5.out, HS8.out.below HBX.out, HLL5.out, HLR5.out⟩, Lib.hid (below_step HBW8.out HBX.out)⟩
      · have hltz : ¬ ((i : Int) < (N : Int)) := by omega
        go_wp2_with fail
        go_ret
        exact ⟨rfl, HBW.out⟩
end
end Go.Proofs.YtnobhjpobnmiaaaDoor.Wl
/- WalAgain: the law's answer, wherever its arguments are of their kinds. -/
namespace Go.Proofs.YtnobhjpobnmiaaaDoor.Q
/-- nothing stands here: the rows open this name -/
theorem nothingAgain : True := trivial
end Go.Proofs.YtnobhjpobnmiaaaDoor.Q
namespace Go.Proofs.YtnobhjpobnmiaaaDoor.Wl
open Go Go.RowKit Go.Proofs.YtnobhjpobnmiaaaDoorW.PrintWords
set_option linter.unusedVariables false

open Classical in
noncomputable def cantonlaw05_WalAgain.f (a0 : Int) (l1 : List (List Int)) : Option Bool := if (0 ≤ a0 ∧ a0 ≤ 65535) ∧ ∀ y ∈ l1, ∀ u ∈ y, 0 ≤ u ∧ u ≤ 255 then some true else none
theorem cantonlaw05_WalAgain.calls (a0 : Int) (A1 : Option Addr) (c1 : Nat) (l1 : List (List Int)) (r : Bool) (w : World) (hr1 : Kd.C (Kd.slice 5 (Kd.int .u8)) w A1 l1.length l1) (hc1 : l1.length ≤ c1) (h : cantonlaw05_WalAgain.f a0 l1 = some r) :
    Calls Tryd.prog 5 #[.int .u16 a0, .slice A1 l1.length c1] w fun e w' => e = .returned (.bool r) ∧ Below w.heap.size w w' := by
  unfold cantonlaw05_WalAgain.f at h
  split at h
  · next hx =>
    cases h
    exact walAgain_walk a0 hx.1.1 hx.1.2 A1 c1 l1 hr1 hx.2
  · cases h
end Go.Proofs.YtnobhjpobnmiaaaDoor.Wl
/- What an argument's data say of its cells, kind by kind: the rows of laws over slices of structs lean on it. -/
namespace Go.Proofs.YtnobhjpobnmiaaaDoor.Opens
open Go Go.RowKit Go.ChangeShapes Go.WideShapes Go.Proofs.YtnobhjpobnmiaaaDoorW.PrintWords

/-- Whatever reads at type t is of kind d; its weights allow Wf. -/
def Op (P : Program) (t : TypeId) {α : Type} (d : Kd α) (Wf : α → Prop) : Prop :=
  ∀ {H : Type} {enc : TypeId × Value → H} {w : World} {base : Nat} {spare : Nat → Bool} {held : Bool} {fuel : Nat} {cs : List Value} {x : DataW H × List MemPlace},
    DataW.trod enc P w base spare held fuel t cs = some x → (∀ n ∈ x.1.weights P t, n ≤ reachBytes) → ∃ a : α, d.K w a cs ∧ Wf a

theorem op_int {P : Program} {t : TypeId} {k : IntKind} (ht : P.underlying t = some (.int k)) : Op P t (Kd.int k) (fun n => (Lit.int k n).wf = true) := by
  intro H enc w base spare held fuel cs x h _
  obtain ⟨n, rfl, rfl, hw⟩ := DataW.trod_int ht h
  exact ⟨n, rfl, hw⟩
theorem op_string {P : Program} {t : TypeId} (ht : P.underlying t = some .string) : Op P t Kd.string (fun s => s.size ≤ 140737488351232) := by
  intro H enc w base spare held fuel cs x h hw
  obtain ⟨s, rfl, rfl, _⟩ := DataW.trod_string ht h
  refine ⟨s, rfl, ?_⟩
  have h1 := hw s.data.toList.length (by simp [DataW.weights])
  have h2 : s.data.toList.length = s.size := by simp
  have h3 : reachBytes ≤ 140737488351232 := by decide
  omega
theorem op_bool {P : Program} {t : TypeId} (ht : P.underlying t = some .bool) : Op P t Kd.bool (fun _ => True) := by
  intro H enc w base spare held fuel cs x h _
  obtain ⟨b, rfl, _⟩ := DataW.trod_bool ht h
  exact ⟨b, rfl, trivial⟩
theorem weightsAll_mem {H : Type} {P : Program} {e : TypeId} : ∀ {l : List (DataW H)} {d : DataW H}, d ∈ l → ∀ n ∈ d.weights P e, n ∈ DataW.weightsAll P e l
  | d0 :: l, d, h, n, hn => by
    rw [DataW.weightsAll, List.mem_append]
    rcases List.mem_cons.1 h with rfl | h
    · exact .inl hn
    · exact .inr (weightsAll_mem h n hn)
/-- The cells of a row, read one by one. -/
theorem cells_at {w : World} {base : Nat} {a : Addr} {n : Nat} {cs : List Value} (h : w.cells? base a n = some cs) : cs.length = n ∧ ∀ i u, cs[i]? = some u → w.cell? (a.add i) = some u := by
  obtain ⟨_, hl, hat⟩ := World.cells?_some h
  refine ⟨hl, fun i u hu => ?_⟩
  have hi : i < n := by rw [← hl]; exact (List.getElem?_eq_some_iff.1 hu).1
  rw [hat i hi, hu]
theorem list_of {α : Type} (Q : Nat → α → Prop) : ∀ len : Nat, (∀ i, i < len → ∃ y, Q i y) → ∃ l : List α, l.length = len ∧ ∀ i y, l[i]? = some y → Q i y
  | 0, _ => ⟨[], rfl, fun i y h => by simp at h⟩
  | len + 1, h => by
    obtain ⟨l, hl, hq⟩ := list_of Q len (fun i hi => h i (by omega))
    obtain ⟨y, hy⟩ := h len (by omega)
    refine ⟨l ++ [y], by simp [hl], fun i z hz => ?_⟩
    rcases Nat.lt_or_ge i l.length with hi | hi
    · rw [List.getElem?_append_left hi] at hz
      exact hq i z hz
    · rw [List.getElem?_append_right hi] at hz
      have : i = l.length := by
        have := (List.getElem?_eq_some_iff.1 hz).1
        simp at this
        omega
      subst this
      simp at hz
      subst hz
      rw [hl]
      exact hy
theorem op_slice {P : Program} {t e : TypeId} {α : Type} {d : Kd α} {Wf : α → Prop} (q : Nat) (ht : P.underlying t = some (.slice e)) (hc : P.cellsOf e = d.sz) {B : Nat} (hB : P.bytesOf e = B) (he : Op P e d Wf) :
    Op P t (Kd.slice q d) (fun l => l.length ≤ 9223372036854775807 ∧ l.length * B ≤ 140737488351232 ∧ ∀ x ∈ l, Wf x) := by
  intro H enc w base spare held fuel cs x h hw
  rcases Go.Deep.open_slice ht h with ⟨rfl, rfl⟩ | ⟨a, len, cap, m, n, D, Pl, rfl, _, hl, hm, hmm, rfl, hi⟩
  · exact ⟨[], ⟨none, 0, rfl, Nat.le_refl _, ⟨rfl, by simp, fun h0 => absurd h0 (Nat.lt_irrefl 0)⟩⟩, by simp, by simp, fun x hx => by simp at hx⟩
  · have hlm : len ≤ m := by rw [hmm]; split <;> omega
    have hwt : ∀ i, i < len → ∀ n ∈ (D i).weights P e, n ≤ reachBytes := fun i hil n hn => hw n (by
      rw [DataW.weights, ht]
      exact List.mem_cons_of_mem _ (List.mem_append_left _ (weightsAll_mem (List.mem_map.2 ⟨i, List.mem_range.2 hil, rfl⟩) n hn)))
    obtain ⟨l, hll, hq⟩ := list_of (fun i (y : α) => ∃ c : List Value, c.length = d.sz ∧ d.K w y c ∧ Wf y ∧ ∀ j u, c[j]? = some u → w.cell? (a.add (i * d.sz + j)) = some u) len (fun i hil => by
      obtain ⟨cs', hcs, htr⟩ := hi i (by omega)
      obtain ⟨y, hy, hwy⟩ := he htr (hwt i hil)
      rw [hc] at hcs
      obtain ⟨hlen, hat⟩ := cells_at hcs
      exact ⟨y, cs', hlen, hy, hwy, fun j u hu => by rw [← Go.Deep.add_add]; exact hat j u hu⟩)
    have hmax : len ≤ 9223372036854775807 := by unfold maxLen at hm; omega
    subst hll
    refine ⟨l, ⟨some a, cap, rfl, hl, ⟨rfl, hmax, fun _ => ⟨a, rfl, fun j p hj => ?_⟩⟩⟩, hmax, ?_, fun y hy => ?_⟩
    · obtain ⟨c, h1, h2, _, h3⟩ := hq j p hj
      exact ⟨c, h1, h2, h3⟩
    · have h3 : reachBytes ≤ 140737488351232 := by decide
      have z := hw ((((List.range l.length).map D).length + ((List.range (m - l.length)).map fun j => D (l.length + j)).length) * P.bytesOf e) (by rw [DataW.weights, ht]; exact List.mem_cons_self)
      rw [hB] at z
      have : l.length * B ≤ (((List.range l.length).map D).length + ((List.range (m - l.length)).map fun j => D (l.length + j)).length) * B := Nat.mul_le_mul_right _ (by simp)
      exact Nat.le_trans (Nat.le_trans this z) h3
    · obtain ⟨j, hj, rfl⟩ := List.getElem_of_mem hy
      obtain ⟨_, _, _, h2, _⟩ := hq j _ (List.getElem?_eq_getElem hj)
      exact h2
/-! Structs: the fields from a place on. -/
def OpF (P : Program) (fs : List Field) (o : Nat) {α : Type} (d : Kd α) (Wf : α → Prop) : Prop :=
  ∀ {H : Type} {enc : TypeId × Value → H} {w : World} {base : Nat} {spare : Nat → Bool} {held : Bool} {n : Nat} {cs : List Value} {xs : List (DataW H × List MemPlace)},
    xs.length = fs.length → (∀ (i : Nat) (f : Field), fs[i]? = some f → DataW.trod enc P w base spare held n f.type ((cs.drop f.offset).take (P.cellsOf f.type)) = xs[i]?) → cs.length = o + d.sz →
      (∀ n ∈ DataW.weightsEach P (fs.map fun f : Field => f.type) (xs.map (·.1)), n ≤ reachBytes) → ∃ a : α, d.K w a (cs.drop o) ∧ Wf a
theorem opF_one {P : Program} {f : Field} {o : Nat} {α : Type} {d : Kd α} {Wf : α → Prop} (ho : f.offset = o) (hc : P.cellsOf f.type = d.sz) (h : Op P f.type d Wf) : OpF P [f] o d Wf := by
  intro H enc w base spare held n cs xs hl hf hcs hw
  match xs, hl with
  | [x], _ =>
    have h0 := hf 0 f rfl
    rw [ho, hc, List.take_of_length_le (by rw [List.length_drop]; omega)] at h0
    exact h h0 (fun n hn => hw n (by simp only [List.map_cons, List.map_nil, DataW.weightsEach, List.append_nil]; exact hn))
theorem opF_cons {P : Program} {f : Field} {fs : List Field} {o : Nat} {α β : Type} {d : Kd α} {d' : Kd β} {Wf : α → Prop} {Wg : β → Prop} (ho : f.offset = o) (hc : P.cellsOf f.type = d.sz) (h : Op P f.type d Wf) (hs : OpF P fs (o + d.sz) d' Wg) :
    OpF P (f :: fs) o (Kd.pair d d') (fun x => Wf x.1 ∧ Wg x.2) := by
  intro H enc w base spare held n cs xs hl hf hcs hw
  match xs, hl with
  | x :: xs, hl =>
    have hcs' : cs.length = o + (d.sz + d'.sz) := hcs
    have h0 := hf 0 f rfl
    rw [ho, hc] at h0
    obtain ⟨a, ha, hwa⟩ := h h0 (fun n hn => hw n (by simp only [List.map_cons, DataW.weightsEach]; exact List.mem_append_left _ hn))
    obtain ⟨b, hb, hwb⟩ := hs (cs := cs) (xs := xs) (by simpa using hl) (fun i g hg => by simpa using hf (i + 1) g (by simpa using hg)) (by omega) (fun n hn => hw n (by simp only [List.map_cons, DataW.weightsEach]; exact List.mem_append_right _ hn))
    refine ⟨(a, b), ⟨_, _, ?_, ha, hb⟩, hwa, hwb⟩
    rw [← List.drop_drop, List.take_append_drop]
theorem op_struct {P : Program} {t : TypeId} {fs : Array Field} {α : Type} {d : Kd α} {Wf : α → Prop} (ht : P.underlying t = some (.struct fs)) (hc : P.cellsOf t = d.sz) (h : OpF P fs.toList 0 d Wf) : Op P t d Wf := by
  intro H enc w base spare held fuel cs x htr hw
  obtain ⟨xs, n, _, rfl, hl, hxl, hf⟩ := DataW.trod_struct ht htr
  have := h (xs := xs) (cs := cs) (n := n) (by simpa using hxl) (fun i f hi => hf i f (by simpa using hi)) (by omega) (fun n hn => hw n (by rw [DataW.weights, ht]; exact hn))
  simpa using this
theorem op_iso {P : Program} {t : TypeId} {α β : Type} {d : Kd α} {Wf : α → Prop} (f : β → α) (g : α → β) (hfg : ∀ a, f (g a) = a) (h : Op P t d Wf) : Op P t (Kd.iso d f) (fun b => Wf (f b)) := by
  intro H enc w base spare held fuel cs x htr hw
  obtain ⟨a, ha, hwa⟩ := h htr hw
  exact ⟨g a, by show d.K w (f (g a)) cs; rw [hfg]; exact ha, by show Wf (f (g a)); rw [hfg]; exact hwa⟩
theorem op_imp {P : Program} {t : TypeId} {α : Type} {d : Kd α} {Wf Wg : α → Prop} (h : Op P t d Wf) (hi : ∀ a, Wf a → Wg a) : Op P t d Wg := by
  intro H enc w base spare held fuel cs x htr hw
  obtain ⟨a, ha, hwa⟩ := h htr hw
  exact ⟨a, ha, hi a hwa⟩
/-- An argument's own weights. -/
theorem own_weights {H : Type} {P : Program} {ts : List TypeId} {ds : List (DataW H)} (h : (DataW.weightsEach P ts ds).all (· ≤ reachBytes) = true) {j : Nat} {t : TypeId} {d : DataW H} (ht : ts[j]? = some t) (hd : ds[j]? = some d) : ∀ n ∈ d.weights P t, n ≤ reachBytes := by
  intro n hn
  have := List.all_eq_true.1 h _ (DataW.weights_mem_each ht hd n hn)
  simpa using this
/-- An argument: its cells. -/
theorem arg_open {H : Type} {enc : TypeId × Value → H} {P : Program} {w : World} {base : Nat} {spare : Nat → Bool} {held : Bool} {t : TypeId} {v : Value} {d : DataW H} {ps : List MemPlace} {α : Type} {k : Kd α} {Wf : α → Prop} (ho : Op P t k Wf) (h : DataW.Trod enc P w base spare held t v d ps) (hw : ∀ n ∈ d.weights P t, n ≤ reachBytes) : ∃ a : α, k.K w a v.cells.toList ∧ Wf a := by
  obtain ⟨fuel, hf⟩ := h
  exact ho hf hw
end Go.Proofs.YtnobhjpobnmiaaaDoor.Opens
/- What the law WalAgain asks, without memory; how its arguments open. -/
namespace Go.Proofs.YtnobhjpobnmiaaaDoor.OpensWalAgain
open Go Go.RowKit Go.Proofs.YtnobhjpobnmiaaaDoor.Opens Go.Proofs.YtnobhjpobnmiaaaDoor.Q Go.Proofs.YtnobhjpobnmiaaaDoorW.PrintWords Go.Proofs.YtnobhjpobnmiaaaDoor.Wl
theorem opArg1 : Opens.Op Tryd.prog 30 (Kd.slice 22 (Kd.slice 5 (Kd.int .u8))) (fun x => x.length ≤ 9223372036854775807 ∧ x.length * 24 ≤ 140737488351232 ∧ ∀ y ∈ x, y.length ≤ 9223372036854775807 ∧ y.length * 1 ≤ 140737488351232 ∧ ∀ z ∈ y, (Lit.int .u8 z).wf = true) := (op_slice 22 Tryd.underlying30 (by kernel_rfl) (by kernel_rfl) (op_slice 5 Tryd.underlying22 (by kernel_rfl) (by kernel_rfl) (op_int Tryd.underlying5)))
/-- THE ONE PURE STATEMENT. -/
def Pure : Prop := ∀ (a0 : Int) (l1 : (List (List Int))), ((Lit.int .u16 a0).wf = true) → (l1.length ≤ 9223372036854775807 ∧ l1.length * 24 ≤ 140737488351232 ∧ ∀ y ∈ l1, y.length ≤ 9223372036854775807 ∧ y.length * 1 ≤ 140737488351232 ∧ ∀ z ∈ y, (Lit.int .u8 z).wf = true) → cantonlaw05_WalAgain.f a0 l1 = some true
end Go.Proofs.YtnobhjpobnmiaaaDoor.OpensWalAgain
/- WalAgain, without memory: the walk shows it true. -/
namespace Go.Proofs.YtnobhjpobnmiaaaDoor.Pure
open Go Go.RowKit Go.Proofs.YtnobhjpobnmiaaaDoor.Wl Go.Proofs.YtnobhjpobnmiaaaDoor.OpensWalAgain
theorem wlA16 {y : Int} (h : (Lit.int .u16 y).wf = true) : 0 ≤ y ∧ y ≤ 65535 := by
  simp only [Lit.wf, Bool.and_eq_true, decide_eq_true_eq] at h
  exact ⟨Int.le_trans (by decide) h.1, Int.le_trans h.2 (by decide)⟩
theorem wlA8 {y : Int} (h : (Lit.int .u8 y).wf = true) : 0 ≤ y ∧ y ≤ 255 := by
  simp only [Lit.wf, Bool.and_eq_true, decide_eq_true_eq] at h
  exact ⟨Int.le_trans (by decide) h.1, Int.le_trans h.2 (by decide)⟩
theorem WalAgain : OpensWalAgain.Pure := by
  intro a0 l1 h0 h1
  unfold cantonlaw05_WalAgain.f
  rw [if_pos ⟨wlA16 h0, fun y hy u hu => wlA8 ((h1.2.2 y hy).2.2 u hu)⟩]
end Go.Proofs.YtnobhjpobnmiaaaDoor.Pure
namespace Go.Proofs.YtnobhjpobnmiaaaDoor.walAgain
open Go.ChangeShapes Go.WideShapes Go.ChangeAt Go.RowKit
open Go.ChangeMaps (open_string shut_string)
set_option linter.unusedVariables false
theorem own : ownKnob Tryd.prog.godebug = none := by kernel_rfl
theorem laidOut : laidOutB Tryd.prog = true := by kernel_rfl
def laidAll : List (String × DataW Unit) := [("unicode/utf8.acceptRanges", Rows.laid_unicode_utf8_acceptRanges), ("unicode/utf8.first", Rows.laid_unicode_utf8_first)]
set_option maxRecDepth 100000 in
theorem lifted (os : Os) (started : os.Started) (H : Type) (enc : TypeId × Value → H) :
    ReturnsInHanded {} Tryd.checked os 5 .any (fun w args => (Rows.walAgainSpec.pre enc Tryd.prog Tryd.f5 [] false w args ∧ laidMetH Tryd.prog laidAll w) ∧ sizedMet enc Tryd.prog Tryd.f5 (OpenSpec.ofChange Rows.walAgainSpec) false w args) (Rows.walAgainSpec.post enc Tryd.prog Tryd.f5 false true false false) := by
  refine returnsInHanded_of_change_and (C := Tryd.checked) (X := fun w _ => laidMetH Tryd.prog laidAll w) (fun _ _ _ hh h => h.of_heap hh) own started (by kernel_rfl) Tryd.func5
    (ChangeSpec.witness_shaped (enc := enc) (C := Tryd.checked) (os := os) (X := fun w _ => laidMetH Tryd.prog laidAll w) false (World.laidAll Tryd.prog os laidAll) #[.int .u16 0, .slice none 0 0] 8 (World.laidAll_os _ _ _)
      (World.shaped_of_ZipB (by kernel_rfl) (by kernel_rfl)) (by kernel_rfl) (by kernel_rfl) (by kernel_rfl)
      (by rw [MakeChecks.laidMetH_plain _ _ _ (by kernel_rfl)]; exact laidMet_laidAll _ (by kernel_rfl) (by kernel_rfl))) ?_
  intro W base args ds gs before hval0 hW hcnd hsz0 hL _
  have hsz : (DataW.weightsEach Tryd.prog (Tryd.f5.params.toList ++ Rows.walAgainSpec.plain.varTypes Tryd.prog) (ds ++ gs)).all (· ≤ reachBytes) = true := hsz0
  have hval : ∀ (j : Nat) t v, Tryd.f5.params[j]? = some t → args[j]? = some v → Value.okWide Tryd.prog W .any base t v := hval0
  have hW' := hW
  obtain ⟨p, q, hA0, hV, rfl, hfz, hnd⟩ := hW
  have hA : DataW.TrodAll enc Tryd.prog W 0 (fun _ => true) true Tryd.f5.params.toList args.toList ds p := hA0
  rw [Tryd.params5] at hA hval hsz
  obtain ⟨v0, vs0, d0, ds0, p0, q0, hargs, rfl, rfl, h0, r0⟩ := trodAll_cons hA
  obtain ⟨v1, vs1, d1, ds1, p1, q1, rfl, rfl, rfl, h1, r1⟩ := trodAll_cons r0
  obtain ⟨rfl, rfl, rfl⟩ := trodAll_nil r1
  obtain rfl : args = #[v0, v1] := by cases args; simp_all
  obtain ⟨rfl, rfl⟩ := trodVars_none hV
  obtain ⟨a0, rfl, rfl, rfl, w0⟩ := open_int Tryd.underlying35 (hval 0 35 v0 rfl rfl) h0
  have k1 := h1
  have lt1 : ∀ x ∈ p1, x.block < W.heap.size := by obtain ⟨m, hm⟩ := k1; exact DataW.trod_lt m _ _ _ hm
  obtain ⟨ad1, len1, cap1, rfl⟩ := okWide_slice Tryd.underlying30 (hval 1 30 v1 rfl rfl)
  obtain ⟨l1, ⟨A1, c1, he1, hc1, hr1⟩, w1⟩ := Opens.arg_open OpensWalAgain.opArg1 h1 (Opens.own_weights hsz (j := 1) (t := 30) rfl rfl)
  simp [Value.cells] at he1
  obtain ⟨rfl, rfl, rfl⟩ := he1
  clear hA0 hval0 hsz0 hsz
  have hk := Pure.WalAgain a0 l1 w0 w1
  refine (Wl.cantonlaw05_WalAgain.calls a0 _ _ l1 true W hr1 hc1 hk).mono fun e W' ⟨he, bel⟩ => ?_
  subst he
  exact ⟨_, rfl, _, _, _, [], _, [], hW', trodAll_mk1 (shut_bool Tryd.underlying4 _), (trodAll_cons_mk (shut_int Tryd.underlying35 w0) (trodAll_cons_mk (Below.trod laidOut (by kernel_rfl) (of_decide_eq_true (by kernel_rfl)) k1 bel lt1) trodAll_mk0)), rfl, bel.frame _, fun h => by cases h⟩
theorem over : Rows.walAgainRow.holds Tryd.pinned (OpenSpec.ofChange Rows.walAgainSpec) :=
  OpenClaim.holds_of_wide 5 Tryd.f5 rfl rfl rfl rfl rfl rfl rfl ⟨rfl, rfl, rfl, rfl, rfl⟩ rfl rfl rfl rfl rfl (by kernel_rfl) Tryd.func5 (by kernel_rfl)
    (of_decide_eq_true (by kernel_rfl)) (by unfold Func.isWrapper; first | (rw [if_pos (by decide +kernel)]; kernel_rfl) | (rw [if_neg (by decide +kernel)]; exact ⟨rfl, rfl⟩))
    (fun os started H enc _ => lifted os started H enc)
theorem proved : Rows.WalAgainSaid := over
#print axioms proved
end Go.Proofs.YtnobhjpobnmiaaaDoor.walAgain
namespace Go.Proofs.YtnobhjpobnmiaaaDoor
/-- The tied card. -/
theorem walAgain_holds : Rows.WalAgainCardSaid :=
  Claim7.holds_tied_plain_at .later [] [.data, .pinned] true (true, "442549d042403de336290946dd194b9b92c6199860f7f60e934d9152cb5298f0") false
    walAgain.proved (fun _ h => by cases h) (by kernel_rfl) (fun _ h => by cases h) walAgain_row_tie rfl ⟨rfl, rfl⟩ (by kernel_rfl) rfl
    (fun f fn hf hfn => by
      obtain rfl : f = 5 := Option.some.inj ((show Tryd.prog.funcNamed "canton/cantonlaw05.WalAgain" = some 5 by kernel_rfl).symm.trans hf) |>.symm
      obtain rfl : fn = Tryd.f5 := (Option.some.inj (Tryd.func5.symm.trans hfn)).symm
      exact ⟨by kernel_rfl, fun j t ht => by
        rw [Tryd.params5] at ht
        have hm : t ∈ [35, 30] := by simpa using Array.mem_of_getElem? ht
        have hall : ([35, 30].all fun u => !Tryd.prog.wantsStandIn u) = true := by kernel_rfl
        exact (show Tryd.prog.wantsStandIn t = false by simpa using List.all_eq_true.1 hall t hm)⟩)
    (by kernel_rfl)
#print axioms walAgain_holds
end Go.Proofs.YtnobhjpobnmiaaaDoor
