/- The row of the law WalWhole, over its walk and its pure statement. -/
import Derived.Test.YtnobhjpobnmiaaaDoorWl22
import Derived.Deep.Slices
import Derived.ChangeArms
import Derived.RowKit
import Derived.SizedLaws
import Derived.LaidMore
import Derived.Stop.Joined
import Derived.Stop.LaidErr
import Derived.MakeChecks
import Derived.Lay
import Derived.SevenTiedAt
import Derived.Test.YtnobhjpobnmiaaaDoorCards
import Derived.Test.YtnobhjpobnmiaaaDoorTie
import Derived.Test.YtnobhjpobnmiaaaDoorRows
import Derived.WalkKit
import Derived.ProofKit
import Derived.OpenShut
import Derived.ShutString
import Derived.ChangeOld
import Derived.Below
import Derived.Carry
/- WalWhole: the law walked. -/
namespace Go.Proofs.YtnobhjpobnmiaaaDoor.Wl
open Go Go.RowKit Go.Maps Go.Proofs Go.Proofs.YtnobhjpobnmiaaaDoor.Sk Go.Proofs.YtnobhjpobnmiaaaDoorW.PrintWords Go.Proofs.YtnobhjpobnmiaaaDoorW.PrintLast Go.Proofs.YtnobhjpobnmiaaaDoorW.PrintMore
set_option linter.unusedVariables false
set_option linter.unusedSimpArgs false

section
variable {B b0 : Nat} {W W' w : World} {p g cap m q : Nat} {s : D} {G : LS} {v v2 : Value} {ok : Nat → Prop} {l : List By}
theorem nb_bound (h : NB W b0 (fun k => ¬ Own p g m q ok k) v2 l) : NB W b0 (fun k => ¬ Own p g m q (fun k => ok k ∧ k < W.heap.size) k) v2 l := Kd.N_mono h (fun k hk h2 => hk (by
  rcases h2 with e | e | e | e | e
  · exact .inl e
  · exact .inr (.inl e)
  · exact .inr (.inr (.inl e))
  · exact .inr (.inr (.inr (.inl e)))
  · exact .inr (.inr (.inr (.inr e.1)))))
theorem SYS.fresh (h : SYS B W p g cap m q s G v (fun k => ok k ∧ k < W.heap.size)) : ∀ k, W.heap.size ≤ k → ¬ Own p g m q (fun k => ok k ∧ k < W.heap.size) k := fun k hk h3 => by
  have h1 := h.sr.lt
  have h2 := blk_lt h.lb.blk
  rcases h3 with e | e | e | e | ⟨_, e⟩ <;> omega
/-- another state of the disk -/
theorem SYS.disk {w1 : World} {s1 : D} (h : SYS B W p g cap m q s G v ok) (hs : SR w1 p g cap m s1) (o1 : Ok s1) (hf : Fr W w1 p g m) : SYS B w1 p g cap m q s1 G v ok :=
  ⟨hs, o1, h.lb.fr h.sr hf (fun k hk => ⟨(h.hok k hk).2.1, (h.hok k hk).2.2.1, (h.hok k hk).2.2.2.1⟩), h.hok, h.hB⟩
theorem append_acts {s : D} (G : LS) (b : By) : (appendD s G b).1.acts ≤ s.acts + 4 := by
  unfold appendD
  split
  · exact Nat.le_add_right _ _
  · split
    · exact Nat.le_add_right _ _
    · exact putD_acts _ _ _
theorem nb_empty (w : World) : NB (w.alloc (.cells #[] 22)) w.heap.size (fun _ => True) (.slice (some ⟨w.heap.size, 0, none⟩) 0 0) [] := by
  refine Kd.R_N ⟨fun _ _ => trivial, [], ?_, rfl, fun j x hj => by simp at hj⟩
  have h2 := World.ownsRow_lit (base := w.heap.size) (e := 22) (size := 1) w #[] 0 (Nat.le_refl _) (by decide) rfl
  have h3 : (w.alloc (.cells #[] 22)).ownsRow w.heap.size 22 1 (.slice (some ⟨w.heap.size, 0, none⟩) 0 0) 0 [] := by simpa using h2
  exact h3
set_option maxHeartbeats 16000000 in
set_option maxRecDepth 100000 in
theorem walWhole_walk (x z : Int) (x0 : 0 ≤ x) (x1 : x ≤ 65535) (z0 : 0 ≤ z) (z1 : z ≤ 255) (A : Option Addr) (c : Nat) (ls : List By) (hls : Kd.C kB W A ls.length ls) (hr : ∀ y ∈ ls, ∀ u ∈ y, 0 ≤ u ∧ u ≤ 255)
    (A2 : Option Addr) (c2 : Nat) (b : By) (hb : CB W A2 b.length b) (hc2 : b.length ≤ c2) (hbr : ∀ u ∈ b, 0 ≤ u ∧ u ≤ 255) (A4 : Option Addr) (c4 : Nat) (keep : List Bool) (hk4 : CBool W A4 keep.length keep) :
    Calls Tryd.prog 7 #[.int .u16 x, .slice A ls.length c, .slice A2 b.length c2, .int .u8 z, .slice A4 keep.length c4] W fun e w' => e = .returned (.bool true) ∧ Below W.heap.size W w' := by
  obtain ⟨n, hn⟩ : ∃ n : Nat, 3 + x % 300 = (n : Int) := ⟨(3 + x % 300).toNat, by omega⟩
  have hn1 : 3 ≤ n ∧ n ≤ 302 := by omega
  have HH := Lib.hid (head_walk W)
  have HBG := Lib.hid (fun w => begin_calls n (by omega) (by omega) w)
  have HNX := Lib.hid hn
  have HLS := Lib.hid hls
  have HRR := Lib.hid hr
  have HB2A := Lib.hid hb
  have HBC := Lib.hid hc2
  have HBR := Lib.hid hbr
  have HKE := Lib.hid hk4
  obtain ⟨N, hN⟩ : ∃ N, ls.length = N := ⟨_, rfl⟩
  obtain ⟨L, hL⟩ : ∃ L, b.length = L := ⟨_, rfl⟩
  obtain ⟨K, hK⟩ : ∃ K, keep.length = K := ⟨_, rfl⟩
  have HNL := Lib.hid hN
  have HLL0 := Lib.hid hL
  have HKL := Lib.hid hK
  have hN9 : (N : Int) ≤ 9223372036854775807 := by have := hls.2.1; omega
  have hL9 : (L : Int) ≤ 9223372036854775807 := by have := hb.2.1; omega
  rw [hN] at HLS ⊢
  rw [hL, hK]
  clear hn hls hr hN hb hc2 hbr hk4 hL hK
  go_enter Tryd.func7, Tryd.ntmps7
  go_upto_region 2 with (go_at_call 9; refine HH.out.mono ?_; rintro e w0 ⟨rfl, hb⟩; have HB0 := Lib.hid hb; clear hb)
  have hnx := HNX.out
  go_upto_region 5 with (go_at_call 15; refine (HBG.out _).mono ?_; rintro e w1 ⟨p, g, cap, m, q, v, ok, rfl, hy, hb⟩; have HY := Lib.hid (SYS.bound hy); have HB := Lib.hid (below_step HB0.out hb); clear hy hb)
  clear hnx
  by_cases h60 : 60 < N
  · have h60z : (N : Int) > 60 := by omega
    go_wp2_with fail
    go_ret
    exact ⟨rfl, HB.out⟩
  have h60z : ¬ ((N : Int) > 60) := by omega
  by_cases h6k : 6000 < L
  · have h6kz : (L : Int) > 6000 := by omega
    go_wp2_with fail
    go_ret
    exact ⟨rfl, HB.out⟩
  have h6kz : ¬ ((L : Int) > 6000) := by omega
  have HSB := Lib.hid (show W.heap.size ≤ w0.heap.size from HB0.out.size)
  have HG0 := Lib.hid (show ∃ s t l v' ok', Well n s 0 l t (4 * 0) ∧ SYS W.heap.size w1 p g cap m q s ⟨0, l, t⟩ v' ok' ∧ NB w1 W.heap.size (fun k => ¬ Own p g m q ok' k) (.slice none 0 0) l ∧ l.length ≤ 0 ∧ (∀ y ∈ l, (∀ u ∈ y, 0 ≤ u ∧ u ≤ 255) ∧ y.length ≤ 6000) from
    ⟨made (zer (n * 16)), 0, [], v, _, ⟨⟨made_up n, rfl⟩, made_good n hn1.1, made_clean n hn1.1, zer_len _, Nat.le_refl _⟩, ⟨HY.out.sr, HY.out.o, HY.out.lb, fun k hk => by have := HY.out.hok k hk; exact ⟨Nat.le_trans HSB.out this.1, this.2⟩, by have := HY.out.hB; have := HSB.out; omega⟩, Kd.N_nil _ _ _ _ _, Nat.le_refl _, fun y hy => by cases hy⟩)
  go_upto_block 0 with (fail)
  go_wp2_with fail
  go_loopg [16, 15] N (fun gg s16 s15 wr => ∃ i : Nat, i ≤ N ∧ N - i ≤ gg ∧ s16 = .int .i64 i ∧ Hid (∃ s t l v' ok', Well n s 0 l t (4 * i) ∧ SYS W.heap.size wr p g cap m q s ⟨0, l, t⟩ v' ok' ∧ NB wr W.heap.size (fun k => ¬ Own p g m q ok' k) s15 l ∧ l.length ≤ i ∧ (∀ y ∈ l, (∀ u ∈ y, 0 ≤ u ∧ u ≤ 255) ∧ y.length ≤ 6000)) ∧ Hid (Below W.heap.size W wr))
  case atStart => exact ⟨0, Nat.zero_le _, by omega, rfl, HG0, HB⟩
  case round =>
    obtain ⟨i, hi, hgg, rfl, HG, HBW⟩ := hrel
    by_cases hlt : i < N
    · have hltz : (i : Int) < (N : Int) := by omega
      obtain ⟨y, hy⟩ : ∃ y, ls[i]? = some y := ⟨_, List.getElem?_eq_getElem (by rw [HNL.out]; exact hlt)⟩
      obtain ⟨ad, A', c', ea, hcell, hyc, hcb⟩ := rows_at HLS.out hy
      have hcell1 := cell_keep0 HBW.out hcell
      have HCB := Lib.hid hcb
      have HYC := Lib.hid hyc
      have HYR := Lib.hid (HRR.out y (List.mem_of_getElem? hy))
      obtain ⟨ny, hny⟩ : ∃ ny, y.length = ny := ⟨_, rfl⟩
      have HNY := Lib.hid hny
      have HCL := Lib.hid hcell
      rw [hny] at hcell1
      cases ea
      clear hy hcell hyc hcb hny
      by_cases hbig : 6000 < ny
      · have hbz : (ny : Int) > 6000 := by omega
        go_wp2_with fail
        go_ret
        exact ⟨rfl, HBW.out⟩
      · have hbz : ¬ ((ny : Int) > 6000) := by omega
        obtain ⟨s, t, l, v', ok', hw, hs, hn3, hll, hlr⟩ := HG.out
        have HW := Lib.hid hw
        have HS3 := Lib.hid hs.bound
        have HN3 := Lib.hid (nb_bound hn3)
        have HLL := Lib.hid hll
        have HLR := Lib.hid hlr
        have HTH := Lib.hid (show t ≤ 2048 from Nat.le_trans hw.good.th (half_le (by rw [hw.len]; omega)))
        clear hw hs hn3 hll hlr
        obtain ⟨H, hH⟩ : ∃ H, half s.b.length = H := ⟨_, rfl⟩
        have HHH := Lib.hid hH
        clear hH
        have HA' := Lib.hid (fun ad' (e : A' = some ad') (h0 : 0 < y.length) => (by
          have h1 := cb_lt HCB.out ad' e h0
          have := HS3.out.hB
          exact ⟨by omega, by omega, by omega⟩ : ad'.block ≠ p ∧ ad'.block ≠ g ∧ ad'.block ≠ m))
        have HAPP := Lib.hid (by
          have := HS3.out.append (c := c') (by have := HW.out.acts; omega) (show (0 : Nat) ≤ 1 by decide) (by show t ≤ _; have := HTH.out; omega) (by show l.length ≤ _; have := HLL.out; omega) y (Kd.C_below HCB.out HBW.out) HYR.out (by rw [HNY.out]; omega) HA'.out
          rw [HNY.out] at this
          exact this : Calls Tryd.prog 13 #[.pointer (some ⟨q, 0, none⟩), .slice A' ny c'] wr fun e w' => e = .returned (.int .i64 (appendD s ⟨0, l, t⟩ y).2.1) ∧ (∃ v'', SYS W.heap.size w' p g cap m q (appendD s ⟨0, l, t⟩ y).1 (appendD s ⟨0, l, t⟩ y).2.2 v'' (fun k => (ok' k ∧ k < wr.heap.size) ∨ wr.heap.size ≤ k)) ∧ Kp wr w' (Own p g m q (fun k => ok' k ∧ k < wr.heap.size)))
        by_cases hfit : t + need ny ≤ H
        · obtain ⟨s1, e1, k1, k2, k3, k4, k5, k6⟩ := calm_append HS3.out.o HW.out.calm HW.out.good HW.out.clean HYR.out (show y.length ≤ 16384 by rw [HNY.out]; omega) (by rw [HNY.out, HHH.out]; exact hfit)
          have HW5 := Lib.hid (show Well n s1 0 (l ++ [y]) (t + need y.length) (4 * (i + 1)) from ⟨k1, k3, k4, k5.trans HW.out.len, by have := HW.out.acts; omega⟩)
          rw [e1] at HAPP
          clear e1 k1 k2 k3 k4 k5 k6 hfit
          go_upto_region 15 with (go_at_call 13; (with_reducible refine HAPP.out.mono ?_); rintro e w4 ⟨rfl, ⟨v4, hs4⟩, hk4⟩; have HS4 := Lib.hid hs4; have HK4 := Lib.hid hk4; clear hs4 hk4)
          have HN4 := Lib.hid (nb_bound (nb_kp HN3.out HK4.out))
          have HS4b := Lib.hid HS4.out.bound
          have HBW4 := Lib.hid (HBW.out.trans (HK4.out.to_below HS3.out.own HS3.out.le))
          have hcell4 := (by have := cell_keep0 HBW4.out HCL.out; rw [HNY.out] at this; exact this : w4.cell? (ad.add i) = some (.slice A' ny c'))
          have HLL5 := Lib.hid (show (l ++ [y]).length ≤ i + 1 by rw [List.length_append]; have := HLL.out; show l.length + 1 ≤ _; omega)
          have HLR5 := Lib.hid (show ∀ z ∈ l ++ [y], (∀ u ∈ z, 0 ≤ u ∧ u ≤ 255) ∧ z.length ≤ 6000 from fun z hz => by
            rcases List.mem_append.1 hz with hz | hz
            · exact HLR.out z hz
            · rw [List.mem_singleton.1 hz]; exact ⟨HYR.out, by rw [HNY.out]; omega⟩)
          have HFK := Lib.hid (by have := fk_arg HCB.out HYC.out HBW4.out; rw [HNY.out] at this; exact this : Kd.FK (Kd.slice 5 (Kd.int .u8)) w4 (fun k => k < W.heap.size) y [.slice A' ny c'])
          clear hcell1
          go_wp2_with (at_builtin; refine nb_append (W := w4) (w0 := w4) (b0 := W.heap.size) rfl (.tmp 65) (.tmp 70) rfl rfl rfl HFK.out (fun k hk => ⟨fun h => by have := HS4b.out.own k h; omega, fun e => by have := Kd.N_base HN4.out k e.symm; omega⟩) HS4b.out.fresh HN4.out ⟨rfl, rfl, rfl, Nat.le_refl _, fun _ _ => rfl⟩ HBW4.out.size (by have := HLL.out; omega) ?_; intro v5 w5 hn5 hg5; have HN5 := Lib.hid hn5; have HS5 := Lib.hid (HS4b.out.keep (fun k hk hlt => hg5.block k hlt (fun e => HN4.out.1 k e.symm hk))); have HBW5 := Lib.hid (HBW4.out.trans (show Below W.heap.size w4 w5 from ⟨hg5.os, hg5.tape, hg5.output, hg5.size, fun k hk => hg5.block k (Nat.lt_of_lt_of_le hk HBW4.out.size) (fun e => by have := Kd.N_base HN4.out k e.symm; omega)⟩)); clear hn5 hg5)
          go_roundg (N - (i + 1))
          case measure => omega
          case rel => exact ⟨i + 1, by omega, by omega, by go_num, Lib.hid ⟨_, _, _, _, _, HW5.out, HS5.out, HN5.out, HLL5.out, HLR5.out⟩, HBW5⟩
        · have hfn := append_full (s := s) (G := ⟨0, l, t⟩) (b := y) (by rw [HNY.out]; omega) (by rw [HHH.out, HNY.out]; show H < need ny + t; omega)
          have HW5 := Lib.hid (show Well n s 0 l t (4 * (i + 1)) from ⟨HW.out.calm, HW.out.good, HW.out.clean, HW.out.len, by have := HW.out.acts; omega⟩)
          rw [hfn] at HAPP
          clear hfn hfit
          go_wp2_with (go_at_call 13; (with_reducible refine HAPP.out.mono ?_); rintro e w5 ⟨rfl, ⟨v4, hs4⟩, hk4⟩; have HS5 := Lib.hid hs4; have HK4 := Lib.hid hk4; clear hs4 hk4)
          go_roundg (N - (i + 1))
          case measure => omega
          case rel => exact ⟨i + 1, by omega, by omega, by go_num, Lib.hid ⟨_, _, _, _, _, HW5.out, HS5.out, nb_kp HN3.out HK4.out, by have := HLL.out; omega, HLR.out⟩, Lib.hid (HBW.out.trans (HK4.out.to_below HS3.out.own HS3.out.le))⟩
    · have hltz : ¬ ((i : Int) < (N : Int)) := by omega
      obtain ⟨s, t, l, v', ok', hw, hs, hn3, hll, hlr⟩ := HG.out
      have HW := Lib.hid hw
      have HS := Lib.hid hs.bound
      have HN1 := Lib.hid (nb_bound hn3)
      have HLL := Lib.hid (show l.length ≤ 60 by omega)
      have HLR := Lib.hid hlr
      have HLRN := Lib.hid (show ∀ z ∈ l ++ [b], (∀ u ∈ z, 0 ≤ u ∧ u ≤ 255) ∧ z.length ≤ 6000 from fun z hz => by
        rcases List.mem_append.1 hz with hz | hz
        · exact hlr z hz
        · rw [List.mem_singleton.1 hz]; exact ⟨HBR.out, by rw [HLL0.out]; omega⟩)
      have HTH := Lib.hid (show t ≤ 2048 from Nat.le_trans hw.good.th (half_le (by rw [hw.len]; omega)))
      clear hw hs hn3 hll hlr
      obtain ⟨kf, hkf⟩ : ∃ kf : Nat, z % 6 = (kf : Int) := ⟨(z % 6).toNat, by omega⟩
      have hkf6 : kf ≤ 5 := by omega
      have HKF := Lib.hid hkf
      obtain ⟨s1, hs1⟩ : ∃ s1, s.fused (kf : Int) = s1 := ⟨_, rfl⟩
      have HFU := Lib.hid (by have := fuse_calls HS.out.sr (kf : Int); rw [hs1] at this; exact this : Calls Tryd.prog 21 #[.pointer (some ⟨p, 0, none⟩), .int .i64 (kf : Int)] wr fun e w' => e = .returned (.tuple #[]) ∧ SR w' p g cap m s1 ∧ Fr wr w' p g m)
      have HO1 := Lib.hid (by have := ok_fused HS.out.o (kf : Int) (by omega); rw [hs1] at this; exact this : Ok s1)
      have hcut := cut_append HO1.out (by rw [← hs1]; exact HW.out.calm.up.down) (by rw [← hs1]; exact HW.out.calm.old) (a := 0) (t := t) (l := l) (by rw [← hs1]; exact HW.out.good) (by rw [← hs1]; exact HW.out.clean) HBR.out (show b.length ≤ 16384 by rw [HLL0.out]; omega) keep
      have HAC1 := Lib.hid (show s1.acts = s.acts by rw [← hs1]; rfl)
      clear hs1
      go_upto_region 18 with (fail)
      have hkf2 := HKF.out
      go_upto_region 19 with (go_at_call 21; (with_reducible refine HFU.out.mono ?_); rintro e w2 ⟨rfl, hs2, hf2⟩; have HS2 := Lib.hid (HS.out.disk hs2 HO1.out hf2); have HF2 := Lib.hid hf2; clear hs2 hf2)
      clear hkf hkf2
      have HN2 := Lib.hid (Kd.N_step HN1.out (fun k hk hlt => HF2.out.block k hlt (fun e => hk (.inl e)) (fun e => hk (.inr (.inl e))) (fun e => hk (.inr (.inr (.inl e))))))
      have HBW2 := Lib.hid (HBW.out.trans (HF2.out.to_below HS.out.hB.1 HS.out.hB.2.1 HS.out.hB.2.2.1 HS.out.le))
      rcases hcut with ⟨he, hgc⟩ | ⟨he, hgc⟩ | ⟨he, hgc | hgc⟩
      · have HEE := Lib.hid he
        have HGC := Lib.hid hgc
        clear he hgc
        have HAPP := Lib.hid (by
          have := HS2.out.append (c := c2) (by rw [HAC1.out]; have := HW.out.acts; omega) (show (0 : Nat) ≤ 1 by decide) (by show t ≤ _; have := HTH.out; omega) (by show l.length ≤ _; have := HLL.out; omega) b (Kd.C_below HB2A.out HBW2.out) HBR.out (by rw [HLL0.out]; omega) (fun ad' e h0 => (by
            have h1 := cb_lt HB2A.out ad' e h0
            have := HS2.out.hB
            exact ⟨by omega, by omega, by omega⟩ : ad'.block ≠ p ∧ ad'.block ≠ g ∧ ad'.block ≠ m))
          rw [HLL0.out, HEE.out] at this
          exact this : Calls Tryd.prog 13 #[.pointer (some ⟨q, 0, none⟩), .slice A2 L c2] w2 fun e w' => e = .returned (.int .i64 0) ∧ (∃ v'', SYS W.heap.size w' p g cap m q (appendD s1 ⟨0, l, t⟩ b).1 (appendD s1 ⟨0, l, t⟩ b).2.2 v'' (fun k => (ok' k ∧ k < wr.heap.size) ∨ w2.heap.size ≤ k)) ∧ Kp w2 w' (Own p g m q (fun k => ok' k ∧ k < wr.heap.size)))
        go_upto_region 20 with (go_at_call 13; (with_reducible refine HAPP.out.mono ?_); rintro e w3 ⟨rfl, ⟨v3, hs3⟩, hk3⟩; have HS3 := Lib.hid hs3; have HK3 := Lib.hid hk3; clear hs3 hk3)
        have HN3 := Lib.hid (nb_kp HN2.out HK3.out)
        have HBW3 := Lib.hid (HBW2.out.trans (HK3.out.to_below HS2.out.own HS2.out.le))
        have HCR := Lib.hid (by
          have := crash_calls (c := c4) HS3.out.sr HS3.out.o keep (Kd.C_below HKE.out HBW3.out) (fun ad' e h0 => (by
            have h1 := cbool_lt HKE.out ad' e h0
            have := HS3.out.hB
            exact ⟨by omega, by omega, by omega⟩ : ad'.block ≠ p ∧ ad'.block ≠ g ∧ ad'.block ≠ m))
          rw [HKL.out] at this
          exact this : Calls Tryd.prog 20 #[.pointer (some ⟨p, 0, none⟩), .slice A4 K c4] w3 fun e w' => e = .returned (.tuple #[]) ∧ SR w' p g cap m ((appendD s1 ⟨0, l, t⟩ b).1.crash keep) ∧ Fr w3 w' p g m)
        go_upto_region 21 with (go_at_call 20; (with_reducible refine HCR.out.mono ?_); rintro e w4 ⟨rfl, hs4, hf4⟩; have HS4 := Lib.hid (HS3.out.disk hs4 (ok_crash HS3.out.o keep) hf4); have HF4 := Lib.hid hf4; clear hs4 hf4)
        have HN4 := Lib.hid (Kd.N_step HN3.out (fun k hk hlt => HF4.out.block k hlt (fun e => hk (.inl e)) (fun e => hk (.inr (.inl e))) (fun e => hk (.inr (.inr (.inl e))))))
        have HBW4 := Lib.hid (HBW3.out.trans (HF4.out.to_below HS3.out.hB.1 HS3.out.hB.2.1 HS3.out.hB.2.2.1 HS3.out.le))
        obtain ⟨s5, e5, k1, k2, k3, k4, k5, k6⟩ := open_any HS4.out.o (calm_crash _ keep) HGC.out
        have HOP := Lib.hid (show Calls Tryd.prog 11 #[.pointer (some ⟨p, 0, none⟩)] w4 (fun e w' => ∃ q2 v2, e = .returned (.tuple #[.pointer (some ⟨q2, 0, none⟩), .int .i64 0]) ∧ w4.heap.size ≤ q2 ∧ SR w' p g cap m s5 ∧ Fr w4 w' p g m ∧ LB w' q2 p ⟨0, l ++ [b], t + need b.length⟩ v2 (fun k => w4.heap.size ≤ k)) from by
          have ho := open_calls HS4.out.sr HS4.out.o (by have h1 := append_acts (s := s1) ⟨0, l, t⟩ b; have := HW.out.acts; show (appendD s1 ⟨0, l, t⟩ b).1.acts ≤ _; have e : s1.acts = s.acts := HAC1.out; omega)
          rw [e5] at ho
          refine ho.mono ?_
          rintro e w' ⟨h1, h2, q2, v2, h3, h4, h5⟩
          exact ⟨q2, v2, h3, h4, h1, h2, h5⟩)
        clear e5 k1 k2 k3 k4 k5 k6
        go_upto_region 24 with (go_at_call 11; (with_reducible refine HOP.out.mono ?_); rintro e w5 ⟨q2, v5, rfl, _, hs5, hf5, hl5⟩; have HS5 := Lib.hid hs5; have HF5 := Lib.hid hf5; have HL5 := Lib.hid hl5; clear hs5 hf5 hl5)
        have HLT4 := Lib.hid HS4.out.sr.lt
        have HLG := Lib.hid (show LG w5 q2 p g m 0 v5 (l ++ [b]) (t + need b.length) from ⟨HL5.out.blk, Kd.R_mono HL5.out.rows (fun k (hk : w4.heap.size ≤ k) => by have := HLT4.out; omega)⟩)
        have HN5 := Lib.hid (Kd.N_step HN4.out (fun k hk hlt => HF5.out.block k hlt (fun e => hk (.inl e)) (fun e => hk (.inr (.inl e))) (fun e => hk (.inr (.inr (.inl e))))))
        have HBW5 := Lib.hid (HBW4.out.trans (HF5.out.to_below HS4.out.hB.1 HS4.out.hB.2.1 HS4.out.hB.2.2.1 HS4.out.le))
        have HRC := Lib.hid (records_calls HLG.out (by show (l ++ [b]).length ≤ _; have := HLL.out; have : (l ++ [b]).length ≤ l.length + 1 := by simp
                                                       omega) (fun z hz => by have := (HLRN.out z hz).2; omega))
        go_upto_region 25 with (go_at_call 12; (with_reducible refine HRC.out.mono ?_); rintro e w6 ⟨v6, rfl, hr6, hb6⟩; have HR6 := Lib.hid hr6; have HB6 := Lib.hid hb6; clear hr6 hb6)
        have HN6 := Lib.hid (Kd.N_bound (Kd.N_below HN5.out HB6.out))
        have HBW6 := Lib.hid (below_step HBW5.out HB6.out)
        obtain ⟨A15, c15, rfl⟩ := Kd.N_slice HN6.out
        obtain ⟨n15, hn15⟩ : ∃ n15, l.length = n15 := ⟨_, rfl⟩
        have HN15 := Lib.hid hn15
        have HF6 := Lib.hid (Kd.N_F HN6.out)
        rw [hn15] at HF6 ⊢
        clear hn15
        go_upto_region 26 with (first
          | (at_builtin; refine Kd.N_append_rows kB (w0 := w6) (W := w6.alloc (.cells #[] 22)) w6.heap.size rfl (.tmp 98) (.tmp 99) 30 22 (.slice none 0 0) 24 rfl Tryd.underlying30 infoB rfl (by decide) (by decide) (.slice (some ⟨w6.heap.size, 0, none⟩) 0 0) [] l A15 n15 c15 (fun _ => True) (fun k => k < w6.heap.size) rfl rfl (nb_empty w6) (Kd.F_mono (Kd.F_alloc HF6.out _) (fun k hk => hk.2)) (fun k hk => ⟨trivial, fun e => by have h3 : k = w6.heap.size := (by simpa [Value.ownBlock] using e); omega⟩) (fun _ _ => trivial) (below_alloc (Below.refl _ _) _) (by rw [size_alloc]; omega) (by have := HLL.out; have := HN15.out; show (([] : List By).length + n15) * 24 ≤ _; simp; omega) ?_; intro v7 w7 hn7 hb7 hg7 _; have HN7 := Lib.hid hn7; have HB7 := Lib.hid hb7; clear hn7 hb7 hg7)
          | (at_builtin; refine nb_append (W := w7) (w0 := w6) (b0 := w6.heap.size) (ok := fun _ => True) rfl (.tmp 100) (.tmp 102) rfl rfl rfl (by have := fk_arg HB2A.out HBC.out (HBW6.out.trans (HB7.out.mono HBW6.out.size)); rw [HLL0.out] at this; exact this) (fun k hk => ⟨trivial, fun e => by have h1 := Kd.N_base HN7.out k e.symm; have := HBW6.out.size; omega⟩) (fun _ _ => trivial) HN7.out HB7.out HB7.out.size (by have := HLL.out; show (([] : List By) ++ l).length ≤ _; rw [List.nil_append]; omega) ?_; intro v8 w8 hn8 hg8; have HN8 := Lib.hid hn8; have HB8 := Lib.hid (HB7.out.trans (show Below w6.heap.size w7 w8 from ⟨hg8.os, hg8.tape, hg8.output, hg8.size, fun k hk => hg8.block k (Nat.lt_of_lt_of_le hk HB7.out.size) (fun e => by have := Kd.N_base HN7.out k e.symm; omega)⟩)); clear hn8 hg8))
        obtain ⟨A6, c6, rfl⟩ := Kd.R_slice HR6.out
        obtain ⟨A8, c8, rfl⟩ := Kd.N_slice HN8.out
        have HC6 := Lib.hid (Kd.R_reads' (Kd.R_below HR6.out HB8.out)).2.2
        have HC8 := Lib.hid (Kd.N_reads' HN8.out).2.2
        have HC15 := Lib.hid (Kd.N_reads' (Kd.N_below HN6.out HB8.out)).2.2
        have HBW8 := Lib.hid (HBW6.out.trans (HB8.out.mono HBW6.out.size))
        simp only [List.nil_append] at HC8
        (try simp only [List.nil_append])
        have HSN := Lib.hid (fun w' (hw : Below w8.heap.size w8 w') => (by
          have := same_calls A6 A8 c6 c8 (l ++ [b]) (l ++ [b]) (Kd.C_below HC6.out hw) (Kd.C_below HC8.out hw) (fun z hz => (HLRN.out z hz).1) (fun z hz => (HLRN.out z hz).1)
          rw [decide_eq_true rfl] at this
          exact this : Calls Tryd.prog 14 #[.slice A6 (l ++ [b]).length c6, .slice A8 (l ++ [b]).length c8] w' fun e w2 => e = .returned (.bool true) ∧ Below w'.heap.size w' w2))
        obtain ⟨n6, hn6⟩ : ∃ n6, (l ++ [b]).length = n6 := ⟨_, rfl⟩
        rw [hn6] at HSN ⊢
        clear hn6
        go_wp2_with (go_at_call 14; (with_reducible refine (HSN.out _ (Below.refl _ _)).mono ?_); rintro e w9 ⟨rfl, hb9⟩; have HB9 := Lib.hid hb9; clear hb9)
        go_ret
        exact ⟨rfl, below_step HBW8.out HB9.out⟩
      · have HEE := Lib.hid he
        have HGC := Lib.hid hgc
        clear he hgc
        have HAPP := Lib.hid (by
          have := HS2.out.append (c := c2) (by rw [HAC1.out]; have := HW.out.acts; omega) (show (0 : Nat) ≤ 1 by decide) (by show t ≤ _; have := HTH.out; omega) (by show l.length ≤ _; have := HLL.out; omega) b (Kd.C_below HB2A.out HBW2.out) HBR.out (by rw [HLL0.out]; omega) (fun ad' e h0 => (by
            have h1 := cb_lt HB2A.out ad' e h0
            have := HS2.out.hB
            exact ⟨by omega, by omega, by omega⟩ : ad'.block ≠ p ∧ ad'.block ≠ g ∧ ad'.block ≠ m))
          rw [HLL0.out, HEE.out] at this
          exact this : Calls Tryd.prog 13 #[.pointer (some ⟨q, 0, none⟩), .slice A2 L c2] w2 fun e w' => e = .returned (.int .i64 51) ∧ (∃ v'', SYS W.heap.size w' p g cap m q (appendD s1 ⟨0, l, t⟩ b).1 (appendD s1 ⟨0, l, t⟩ b).2.2 v'' (fun k => (ok' k ∧ k < wr.heap.size) ∨ w2.heap.size ≤ k)) ∧ Kp w2 w' (Own p g m q (fun k => ok' k ∧ k < wr.heap.size)))
        go_upto_region 20 with (go_at_call 13; (with_reducible refine HAPP.out.mono ?_); rintro e w3 ⟨rfl, ⟨v3, hs3⟩, hk3⟩; have HS3 := Lib.hid hs3; have HK3 := Lib.hid hk3; clear hs3 hk3)
        have HN3 := Lib.hid (nb_kp HN2.out HK3.out)
        have HBW3 := Lib.hid (HBW2.out.trans (HK3.out.to_below HS2.out.own HS2.out.le))
        have HCR := Lib.hid (by
          have := crash_calls (c := c4) HS3.out.sr HS3.out.o keep (Kd.C_below HKE.out HBW3.out) (fun ad' e h0 => (by
            have h1 := cbool_lt HKE.out ad' e h0
            have := HS3.out.hB
            exact ⟨by omega, by omega, by omega⟩ : ad'.block ≠ p ∧ ad'.block ≠ g ∧ ad'.block ≠ m))
          rw [HKL.out] at this
          exact this : Calls Tryd.prog 20 #[.pointer (some ⟨p, 0, none⟩), .slice A4 K c4] w3 fun e w' => e = .returned (.tuple #[]) ∧ SR w' p g cap m ((appendD s1 ⟨0, l, t⟩ b).1.crash keep) ∧ Fr w3 w' p g m)
        go_upto_region 21 with (go_at_call 20; (with_reducible refine HCR.out.mono ?_); rintro e w4 ⟨rfl, hs4, hf4⟩; have HS4 := Lib.hid (HS3.out.disk hs4 (ok_crash HS3.out.o keep) hf4); have HF4 := Lib.hid hf4; clear hs4 hf4)
        have HN4 := Lib.hid (Kd.N_step HN3.out (fun k hk hlt => HF4.out.block k hlt (fun e => hk (.inl e)) (fun e => hk (.inr (.inl e))) (fun e => hk (.inr (.inr (.inl e))))))
        have HBW4 := Lib.hid (HBW3.out.trans (HF4.out.to_below HS3.out.hB.1 HS3.out.hB.2.1 HS3.out.hB.2.2.1 HS3.out.le))
        obtain ⟨s5, e5, k1, k2, k3, k4, k5, k6⟩ := open_any HS4.out.o (calm_crash _ keep) HGC.out
        have HOP := Lib.hid (show Calls Tryd.prog 11 #[.pointer (some ⟨p, 0, none⟩)] w4 (fun e w' => ∃ q2 v2, e = .returned (.tuple #[.pointer (some ⟨q2, 0, none⟩), .int .i64 0]) ∧ w4.heap.size ≤ q2 ∧ SR w' p g cap m s5 ∧ Fr w4 w' p g m ∧ LB w' q2 p ⟨0, l, t⟩ v2 (fun k => w4.heap.size ≤ k)) from by
          have ho := open_calls HS4.out.sr HS4.out.o (by have h1 := append_acts (s := s1) ⟨0, l, t⟩ b; have := HW.out.acts; show (appendD s1 ⟨0, l, t⟩ b).1.acts ≤ _; have e : s1.acts = s.acts := HAC1.out; omega)
          rw [e5] at ho
          refine ho.mono ?_
          rintro e w' ⟨h1, h2, q2, v2, h3, h4, h5⟩
          exact ⟨q2, v2, h3, h4, h1, h2, h5⟩)
        clear e5 k1 k2 k3 k4 k5 k6
        go_upto_region 24 with (go_at_call 11; (with_reducible refine HOP.out.mono ?_); rintro e w5 ⟨q2, v5, rfl, _, hs5, hf5, hl5⟩; have HS5 := Lib.hid hs5; have HF5 := Lib.hid hf5; have HL5 := Lib.hid hl5; clear hs5 hf5 hl5)
        have HLT4 := Lib.hid HS4.out.sr.lt
        have HLG := Lib.hid (show LG w5 q2 p g m 0 v5 (l) (t) from ⟨HL5.out.blk, Kd.R_mono HL5.out.rows (fun k (hk : w4.heap.size ≤ k) => by have := HLT4.out; omega)⟩)
        have HN5 := Lib.hid (Kd.N_step HN4.out (fun k hk hlt => HF5.out.block k hlt (fun e => hk (.inl e)) (fun e => hk (.inr (.inl e))) (fun e => hk (.inr (.inr (.inl e))))))
        have HBW5 := Lib.hid (HBW4.out.trans (HF5.out.to_below HS4.out.hB.1 HS4.out.hB.2.1 HS4.out.hB.2.2.1 HS4.out.le))
        have HRC := Lib.hid (records_calls HLG.out (by show (l).length ≤ _; have := HLL.out; have : (l).length ≤ l.length + 1 := by simp
                                                       omega) (fun z hz => by have := (HLR.out z hz).2; omega))
        go_upto_region 25 with (go_at_call 12; (with_reducible refine HRC.out.mono ?_); rintro e w6 ⟨v6, rfl, hr6, hb6⟩; have HR6 := Lib.hid hr6; have HB6 := Lib.hid hb6; clear hr6 hb6)
        have HN6 := Lib.hid (Kd.N_bound (Kd.N_below HN5.out HB6.out))
        have HBW6 := Lib.hid (below_step HBW5.out HB6.out)
        obtain ⟨A15, c15, rfl⟩ := Kd.N_slice HN6.out
        obtain ⟨n15, hn15⟩ : ∃ n15, l.length = n15 := ⟨_, rfl⟩
        have HN15 := Lib.hid hn15
        have HF6 := Lib.hid (Kd.N_F HN6.out)
        rw [hn15] at HF6 ⊢
        clear hn15
        go_upto_region 26 with (first
          | (at_builtin; refine Kd.N_append_rows kB (w0 := w6) (W := w6.alloc (.cells #[] 22)) w6.heap.size rfl (.tmp 98) (.tmp 99) 30 22 (.slice none 0 0) 24 rfl Tryd.underlying30 infoB rfl (by decide) (by decide) (.slice (some ⟨w6.heap.size, 0, none⟩) 0 0) [] l A15 n15 c15 (fun _ => True) (fun k => k < w6.heap.size) rfl rfl (nb_empty w6) (Kd.F_mono (Kd.F_alloc HF6.out _) (fun k hk => hk.2)) (fun k hk => ⟨trivial, fun e => by have h3 : k = w6.heap.size := (by simpa [Value.ownBlock] using e); omega⟩) (fun _ _ => trivial) (below_alloc (Below.refl _ _) _) (by rw [size_alloc]; omega) (by have := HLL.out; have := HN15.out; show (([] : List By).length + n15) * 24 ≤ _; simp; omega) ?_; intro v7 w7 hn7 hb7 hg7 _; have HN7 := Lib.hid hn7; have HB7 := Lib.hid hb7; clear hn7 hb7 hg7)
          | (at_builtin; refine nb_append (W := w7) (w0 := w6) (b0 := w6.heap.size) (ok := fun _ => True) rfl (.tmp 100) (.tmp 102) rfl rfl rfl (by have := fk_arg HB2A.out HBC.out (HBW6.out.trans (HB7.out.mono HBW6.out.size)); rw [HLL0.out] at this; exact this) (fun k hk => ⟨trivial, fun e => by have h1 := Kd.N_base HN7.out k e.symm; have := HBW6.out.size; omega⟩) (fun _ _ => trivial) HN7.out HB7.out HB7.out.size (by have := HLL.out; show (([] : List By) ++ l).length ≤ _; rw [List.nil_append]; omega) ?_; intro v8 w8 hn8 hg8; have HN8 := Lib.hid hn8; have HB8 := Lib.hid (HB7.out.trans (show Below w6.heap.size w7 w8 from ⟨hg8.os, hg8.tape, hg8.output, hg8.size, fun k hk => hg8.block k (Nat.lt_of_lt_of_le hk HB7.out.size) (fun e => by have := Kd.N_base HN7.out k e.symm; omega)⟩)); clear hn8 hg8))
        obtain ⟨A6, c6, rfl⟩ := Kd.R_slice HR6.out
        obtain ⟨A8, c8, rfl⟩ := Kd.N_slice HN8.out
        have HC6 := Lib.hid (Kd.R_reads' (Kd.R_below HR6.out HB8.out)).2.2
        have HC8 := Lib.hid (Kd.N_reads' HN8.out).2.2
        have HC15 := Lib.hid (Kd.N_reads' (Kd.N_below HN6.out HB8.out)).2.2
        have HBW8 := Lib.hid (HBW6.out.trans (HB8.out.mono HBW6.out.size))
        simp only [List.nil_append] at HC8
        (try simp only [List.nil_append])
        have HSW := Lib.hid (by
          have := same_calls A6 A15 c6 c15 l l HC6.out (by have := HC15.out; exact this) (fun z hz => (HLR.out z hz).1) (fun z hz => (HLR.out z hz).1)
          rw [decide_eq_true rfl] at this
          exact this : Calls Tryd.prog 14 #[.slice A6 l.length c6, .slice A15 l.length c15] w8 fun e w2 => e = .returned (.bool true) ∧ Below w8.heap.size w8 w2)
        rw [HN15.out] at HSW
        rw [HN15.out]
        go_wp2_with (go_at_call 14; (with_reducible refine HSW.out.mono ?_); rintro e w9 ⟨rfl, hb9⟩; have HB9 := Lib.hid hb9; clear hb9)
        go_ret
        exact ⟨rfl, below_step HBW8.out HB9.out⟩
      · have HEE := Lib.hid he
        have HGC := Lib.hid hgc
        clear he hgc
        have HAPP := Lib.hid (by
          have := HS2.out.append (c := c2) (by rw [HAC1.out]; have := HW.out.acts; omega) (show (0 : Nat) ≤ 1 by decide) (by show t ≤ _; have := HTH.out; omega) (by show l.length ≤ _; have := HLL.out; omega) b (Kd.C_below HB2A.out HBW2.out) HBR.out (by rw [HLL0.out]; omega) (fun ad' e h0 => (by
            have h1 := cb_lt HB2A.out ad' e h0
            have := HS2.out.hB
            exact ⟨by omega, by omega, by omega⟩ : ad'.block ≠ p ∧ ad'.block ≠ g ∧ ad'.block ≠ m))
          rw [HLL0.out, HEE.out] at this
          exact this : Calls Tryd.prog 13 #[.pointer (some ⟨q, 0, none⟩), .slice A2 L c2] w2 fun e w' => e = .returned (.int .i64 31) ∧ (∃ v'', SYS W.heap.size w' p g cap m q (appendD s1 ⟨0, l, t⟩ b).1 (appendD s1 ⟨0, l, t⟩ b).2.2 v'' (fun k => (ok' k ∧ k < wr.heap.size) ∨ w2.heap.size ≤ k)) ∧ Kp w2 w' (Own p g m q (fun k => ok' k ∧ k < wr.heap.size)))
        go_upto_region 20 with (go_at_call 13; (with_reducible refine HAPP.out.mono ?_); rintro e w3 ⟨rfl, ⟨v3, hs3⟩, hk3⟩; have HS3 := Lib.hid hs3; have HK3 := Lib.hid hk3; clear hs3 hk3)
        have HN3 := Lib.hid (nb_kp HN2.out HK3.out)
        have HBW3 := Lib.hid (HBW2.out.trans (HK3.out.to_below HS2.out.own HS2.out.le))
        have HCR := Lib.hid (by
          have := crash_calls (c := c4) HS3.out.sr HS3.out.o keep (Kd.C_below HKE.out HBW3.out) (fun ad' e h0 => (by
            have h1 := cbool_lt HKE.out ad' e h0
            have := HS3.out.hB
            exact ⟨by omega, by omega, by omega⟩ : ad'.block ≠ p ∧ ad'.block ≠ g ∧ ad'.block ≠ m))
          rw [HKL.out] at this
          exact this : Calls Tryd.prog 20 #[.pointer (some ⟨p, 0, none⟩), .slice A4 K c4] w3 fun e w' => e = .returned (.tuple #[]) ∧ SR w' p g cap m ((appendD s1 ⟨0, l, t⟩ b).1.crash keep) ∧ Fr w3 w' p g m)
        go_upto_region 21 with (go_at_call 20; (with_reducible refine HCR.out.mono ?_); rintro e w4 ⟨rfl, hs4, hf4⟩; have HS4 := Lib.hid (HS3.out.disk hs4 (ok_crash HS3.out.o keep) hf4); have HF4 := Lib.hid hf4; clear hs4 hf4)
        have HN4 := Lib.hid (Kd.N_step HN3.out (fun k hk hlt => HF4.out.block k hlt (fun e => hk (.inl e)) (fun e => hk (.inr (.inl e))) (fun e => hk (.inr (.inr (.inl e))))))
        have HBW4 := Lib.hid (HBW3.out.trans (HF4.out.to_below HS3.out.hB.1 HS3.out.hB.2.1 HS3.out.hB.2.2.1 HS3.out.le))
        obtain ⟨s5, e5, k1, k2, k3, k4, k5, k6⟩ := open_any HS4.out.o (calm_crash _ keep) HGC.out
        have HOP := Lib.hid (show Calls Tryd.prog 11 #[.pointer (some ⟨p, 0, none⟩)] w4 (fun e w' => ∃ q2 v2, e = .returned (.tuple #[.pointer (some ⟨q2, 0, none⟩), .int .i64 0]) ∧ w4.heap.size ≤ q2 ∧ SR w' p g cap m s5 ∧ Fr w4 w' p g m ∧ LB w' q2 p ⟨0, l, t⟩ v2 (fun k => w4.heap.size ≤ k)) from by
          have ho := open_calls HS4.out.sr HS4.out.o (by have h1 := append_acts (s := s1) ⟨0, l, t⟩ b; have := HW.out.acts; show (appendD s1 ⟨0, l, t⟩ b).1.acts ≤ _; have e : s1.acts = s.acts := HAC1.out; omega)
          rw [e5] at ho
          refine ho.mono ?_
          rintro e w' ⟨h1, h2, q2, v2, h3, h4, h5⟩
          exact ⟨q2, v2, h3, h4, h1, h2, h5⟩)
        clear e5 k1 k2 k3 k4 k5 k6
        go_upto_region 24 with (go_at_call 11; (with_reducible refine HOP.out.mono ?_); rintro e w5 ⟨q2, v5, rfl, _, hs5, hf5, hl5⟩; have HS5 := Lib.hid hs5; have HF5 := Lib.hid hf5; have HL5 := Lib.hid hl5; clear hs5 hf5 hl5)
        have HLT4 := Lib.hid HS4.out.sr.lt
        have HLG := Lib.hid (show LG w5 q2 p g m 0 v5 (l) (t) from ⟨HL5.out.blk, Kd.R_mono HL5.out.rows (fun k (hk : w4.heap.size ≤ k) => by have := HLT4.out; omega)⟩)
        have HN5 := Lib.hid (Kd.N_step HN4.out (fun k hk hlt => HF5.out.block k hlt (fun e => hk (.inl e)) (fun e => hk (.inr (.inl e))) (fun e => hk (.inr (.inr (.inl e))))))
        have HBW5 := Lib.hid (HBW4.out.trans (HF5.out.to_below HS4.out.hB.1 HS4.out.hB.2.1 HS4.out.hB.2.2.1 HS4.out.le))
        have HRC := Lib.hid (records_calls HLG.out (by show (l).length ≤ _; have := HLL.out; have : (l).length ≤ l.length + 1 := by simp
                                                       omega) (fun z hz => by have := (HLR.out z hz).2; omega))
        go_upto_region 25 with (go_at_call 12; (with_reducible refine HRC.out.mono ?_); rintro e w6 ⟨v6, rfl, hr6, hb6⟩; have HR6 := Lib.hid hr6; have HB6 := Lib.hid hb6; clear hr6 hb6)
        have HN6 := Lib.hid (Kd.N_bound (Kd.N_below HN5.out HB6.out))
        have HBW6 := Lib.hid (below_step HBW5.out HB6.out)
        obtain ⟨A15, c15, rfl⟩ := Kd.N_slice HN6.out
        obtain ⟨n15, hn15⟩ : ∃ n15, l.length = n15 := ⟨_, rfl⟩
        have HN15 := Lib.hid hn15
        have HF6 := Lib.hid (Kd.N_F HN6.out)
        rw [hn15] at HF6 ⊢
        clear hn15
        go_upto_region 26 with (first
          | (at_builtin; refine Kd.N_append_rows kB (w0 := w6) (W := w6.alloc (.cells #[] 22)) w6.heap.size rfl (.tmp 98) (.tmp 99) 30 22 (.slice none 0 0) 24 rfl Tryd.underlying30 infoB rfl (by decide) (by decide) (.slice (some ⟨w6.heap.size, 0, none⟩) 0 0) [] l A15 n15 c15 (fun _ => True) (fun k => k < w6.heap.size) rfl rfl (nb_empty w6) (Kd.F_mono (Kd.F_alloc HF6.out _) (fun k hk => hk.2)) (fun k hk => ⟨trivial, fun e => by have h3 : k = w6.heap.size := (by simpa [Value.ownBlock] using e); omega⟩) (fun _ _ => trivial) (below_alloc (Below.refl _ _) _) (by rw [size_alloc]; omega) (by have := HLL.out; have := HN15.out; show (([] : List By).length + n15) * 24 ≤ _; simp; omega) ?_; intro v7 w7 hn7 hb7 hg7 _; have HN7 := Lib.hid hn7; have HB7 := Lib.hid hb7; clear hn7 hb7 hg7)
          | (at_builtin; refine nb_append (W := w7) (w0 := w6) (b0 := w6.heap.size) (ok := fun _ => True) rfl (.tmp 100) (.tmp 102) rfl rfl rfl (by have := fk_arg HB2A.out HBC.out (HBW6.out.trans (HB7.out.mono HBW6.out.size)); rw [HLL0.out] at this; exact this) (fun k hk => ⟨trivial, fun e => by have h1 := Kd.N_base HN7.out k e.symm; have := HBW6.out.size; omega⟩) (fun _ _ => trivial) HN7.out HB7.out HB7.out.size (by have := HLL.out; show (([] : List By) ++ l).length ≤ _; rw [List.nil_append]; omega) ?_; intro v8 w8 hn8 hg8; have HN8 := Lib.hid hn8; have HB8 := Lib.hid (HB7.out.trans (show Below w6.heap.size w7 w8 from ⟨hg8.os, hg8.tape, hg8.output, hg8.size, fun k hk => hg8.block k (Nat.lt_of_lt_of_le hk HB7.out.size) (fun e => by have := Kd.N_base HN7.out k e.symm; omega)⟩)); clear hn8 hg8))
        obtain ⟨A6, c6, rfl⟩ := Kd.R_slice HR6.out
        obtain ⟨A8, c8, rfl⟩ := Kd.N_slice HN8.out
        have HC6 := Lib.hid (Kd.R_reads' (Kd.R_below HR6.out HB8.out)).2.2
        have HC8 := Lib.hid (Kd.N_reads' HN8.out).2.2
        have HC15 := Lib.hid (Kd.N_reads' (Kd.N_below HN6.out HB8.out)).2.2
        have HBW8 := Lib.hid (HBW6.out.trans (HB8.out.mono HBW6.out.size))
        simp only [List.nil_append] at HC8
        (try simp only [List.nil_append])
        have HSW := Lib.hid (by
          have := same_calls A6 A15 c6 c15 l l HC6.out (by have := HC15.out; exact this) (fun z hz => (HLR.out z hz).1) (fun z hz => (HLR.out z hz).1)
          rw [decide_eq_true rfl] at this
          exact this : Calls Tryd.prog 14 #[.slice A6 l.length c6, .slice A15 l.length c15] w8 fun e w2 => e = .returned (.bool true) ∧ Below w8.heap.size w8 w2)
        rw [HN15.out] at HSW
        rw [HN15.out]
        go_wp2_with (go_at_call 14; (with_reducible refine HSW.out.mono ?_); rintro e w9 ⟨rfl, hb9⟩; have HB9 := Lib.hid hb9; clear hb9)
        go_ret
        exact ⟨rfl, below_step HBW8.out HB9.out⟩
      · have HEE := Lib.hid he
        have HGC := Lib.hid hgc
        clear he hgc
        have HAPP := Lib.hid (by
          have := HS2.out.append (c := c2) (by rw [HAC1.out]; have := HW.out.acts; omega) (show (0 : Nat) ≤ 1 by decide) (by show t ≤ _; have := HTH.out; omega) (by show l.length ≤ _; have := HLL.out; omega) b (Kd.C_below HB2A.out HBW2.out) HBR.out (by rw [HLL0.out]; omega) (fun ad' e h0 => (by
            have h1 := cb_lt HB2A.out ad' e h0
            have := HS2.out.hB
            exact ⟨by omega, by omega, by omega⟩ : ad'.block ≠ p ∧ ad'.block ≠ g ∧ ad'.block ≠ m))
          rw [HLL0.out, HEE.out] at this
          exact this : Calls Tryd.prog 13 #[.pointer (some ⟨q, 0, none⟩), .slice A2 L c2] w2 fun e w' => e = .returned (.int .i64 31) ∧ (∃ v'', SYS W.heap.size w' p g cap m q (appendD s1 ⟨0, l, t⟩ b).1 (appendD s1 ⟨0, l, t⟩ b).2.2 v'' (fun k => (ok' k ∧ k < wr.heap.size) ∨ w2.heap.size ≤ k)) ∧ Kp w2 w' (Own p g m q (fun k => ok' k ∧ k < wr.heap.size)))
        go_upto_region 20 with (go_at_call 13; (with_reducible refine HAPP.out.mono ?_); rintro e w3 ⟨rfl, ⟨v3, hs3⟩, hk3⟩; have HS3 := Lib.hid hs3; have HK3 := Lib.hid hk3; clear hs3 hk3)
        have HN3 := Lib.hid (nb_kp HN2.out HK3.out)
        have HBW3 := Lib.hid (HBW2.out.trans (HK3.out.to_below HS2.out.own HS2.out.le))
        have HCR := Lib.hid (by
          have := crash_calls (c := c4) HS3.out.sr HS3.out.o keep (Kd.C_below HKE.out HBW3.out) (fun ad' e h0 => (by
            have h1 := cbool_lt HKE.out ad' e h0
            have := HS3.out.hB
            exact ⟨by omega, by omega, by omega⟩ : ad'.block ≠ p ∧ ad'.block ≠ g ∧ ad'.block ≠ m))
          rw [HKL.out] at this
          exact this : Calls Tryd.prog 20 #[.pointer (some ⟨p, 0, none⟩), .slice A4 K c4] w3 fun e w' => e = .returned (.tuple #[]) ∧ SR w' p g cap m ((appendD s1 ⟨0, l, t⟩ b).1.crash keep) ∧ Fr w3 w' p g m)
        go_upto_region 21 with (go_at_call 20; (with_reducible refine HCR.out.mono ?_); rintro e w4 ⟨rfl, hs4, hf4⟩; have HS4 := Lib.hid (HS3.out.disk hs4 (ok_crash HS3.out.o keep) hf4); have HF4 := Lib.hid hf4; clear hs4 hf4)
        have HN4 := Lib.hid (Kd.N_step HN3.out (fun k hk hlt => HF4.out.block k hlt (fun e => hk (.inl e)) (fun e => hk (.inr (.inl e))) (fun e => hk (.inr (.inr (.inl e))))))
        have HBW4 := Lib.hid (HBW3.out.trans (HF4.out.to_below HS3.out.hB.1 HS3.out.hB.2.1 HS3.out.hB.2.2.1 HS3.out.le))
        obtain ⟨s5, e5, k1, k2, k3, k4, k5, k6⟩ := open_any HS4.out.o (calm_crash _ keep) HGC.out
        have HOP := Lib.hid (show Calls Tryd.prog 11 #[.pointer (some ⟨p, 0, none⟩)] w4 (fun e w' => ∃ q2 v2, e = .returned (.tuple #[.pointer (some ⟨q2, 0, none⟩), .int .i64 0]) ∧ w4.heap.size ≤ q2 ∧ SR w' p g cap m s5 ∧ Fr w4 w' p g m ∧ LB w' q2 p ⟨0, l ++ [b], t + need b.length⟩ v2 (fun k => w4.heap.size ≤ k)) from by
          have ho := open_calls HS4.out.sr HS4.out.o (by have h1 := append_acts (s := s1) ⟨0, l, t⟩ b; have := HW.out.acts; show (appendD s1 ⟨0, l, t⟩ b).1.acts ≤ _; have e : s1.acts = s.acts := HAC1.out; omega)
          rw [e5] at ho
          refine ho.mono ?_
          rintro e w' ⟨h1, h2, q2, v2, h3, h4, h5⟩
          exact ⟨q2, v2, h3, h4, h1, h2, h5⟩)
        clear e5 k1 k2 k3 k4 k5 k6
        go_upto_region 24 with (go_at_call 11; (with_reducible refine HOP.out.mono ?_); rintro e w5 ⟨q2, v5, rfl, _, hs5, hf5, hl5⟩; have HS5 := Lib.hid hs5; have HF5 := Lib.hid hf5; have HL5 := Lib.hid hl5; clear hs5 hf5 hl5)
        have HLT4 := Lib.hid HS4.out.sr.lt
        have HLG := Lib.hid (show LG w5 q2 p g m 0 v5 (l ++ [b]) (t + need b.length) from ⟨HL5.out.blk, Kd.R_mono HL5.out.rows (fun k (hk : w4.heap.size ≤ k) => by have := HLT4.out; omega)⟩)
        have HN5 := Lib.hid (Kd.N_step HN4.out (fun k hk hlt => HF5.out.block k hlt (fun e => hk (.inl e)) (fun e => hk (.inr (.inl e))) (fun e => hk (.inr (.inr (.inl e))))))
        have HBW5 := Lib.hid (HBW4.out.trans (HF5.out.to_below HS4.out.hB.1 HS4.out.hB.2.1 HS4.out.hB.2.2.1 HS4.out.le))
        have HRC := Lib.hid (records_calls HLG.out (by show (l ++ [b]).length ≤ _; have := HLL.out; have : (l ++ [b]).length ≤ l.length + 1 := by simp
                                                       omega) (fun z hz => by have := (HLRN.out z hz).2; omega))
        go_upto_region 25 with (go_at_call 12; (with_reducible refine HRC.out.mono ?_); rintro e w6 ⟨v6, rfl, hr6, hb6⟩; have HR6 := Lib.hid hr6; have HB6 := Lib.hid hb6; clear hr6 hb6)
        have HN6 := Lib.hid (Kd.N_bound (Kd.N_below HN5.out HB6.out))
        have HBW6 := Lib.hid (below_step HBW5.out HB6.out)
        obtain ⟨A15, c15, rfl⟩ := Kd.N_slice HN6.out
        obtain ⟨n15, hn15⟩ : ∃ n15, l.length = n15 := ⟨_, rfl⟩
        have HN15 := Lib.hid hn15
        have HF6 := Lib.hid (Kd.N_F HN6.out)
        rw [hn15] at HF6 ⊢
        clear hn15
        go_upto_region 26 with (first
          | (at_builtin; refine Kd.N_append_rows kB (w0 := w6) (W := w6.alloc (.cells #[] 22)) w6.heap.size rfl (.tmp 98) (.tmp 99) 30 22 (.slice none 0 0) 24 rfl Tryd.underlying30 infoB rfl (by decide) (by decide) (.slice (some ⟨w6.heap.size, 0, none⟩) 0 0) [] l A15 n15 c15 (fun _ => True) (fun k => k < w6.heap.size) rfl rfl (nb_empty w6) (Kd.F_mono (Kd.F_alloc HF6.out _) (fun k hk => hk.2)) (fun k hk => ⟨trivial, fun e => by have h3 : k = w6.heap.size := (by simpa [Value.ownBlock] using e); omega⟩) (fun _ _ => trivial) (below_alloc (Below.refl _ _) _) (by rw [size_alloc]; omega) (by have := HLL.out; have := HN15.out; show (([] : List By).length + n15) * 24 ≤ _; simp; omega) ?_; intro v7 w7 hn7 hb7 hg7 _; have HN7 := Lib.hid hn7; have HB7 := Lib.hid hb7; clear hn7 hb7 hg7)
          | (at_builtin; refine nb_append (W := w7) (w0 := w6) (b0 := w6.heap.size) (ok := fun _ => True) rfl (.tmp 100) (.tmp 102) rfl rfl rfl (by have := fk_arg HB2A.out HBC.out (HBW6.out.trans (HB7.out.mono HBW6.out.size)); rw [HLL0.out] at this; exact this) (fun k hk => ⟨trivial, fun e => by have h1 := Kd.N_base HN7.out k e.symm; have := HBW6.out.size; omega⟩) (fun _ _ => trivial) HN7.out HB7.out HB7.out.size (by have := HLL.out; show (([] : List By) ++ l).length ≤ _; rw [List.nil_append]; omega) ?_; intro v8 w8 hn8 hg8; have HN8 := Lib.hid hn8; have HB8 := Lib.hid (HB7.out.trans (show Below w6.heap.size w7 w8 from ⟨hg8.os, hg8.tape, hg8.output, hg8.size, fun k hk => hg8.block k (Nat.lt_of_lt_of_le hk HB7.out.size) (fun e => by have := Kd.N_base HN7.out k e.symm; omega)⟩)); clear hn8 hg8))
        obtain ⟨A6, c6, rfl⟩ := Kd.R_slice HR6.out
        obtain ⟨A8, c8, rfl⟩ := Kd.N_slice HN8.out
        have HC6 := Lib.hid (Kd.R_reads' (Kd.R_below HR6.out HB8.out)).2.2
        have HC8 := Lib.hid (Kd.N_reads' HN8.out).2.2
        have HC15 := Lib.hid (Kd.N_reads' (Kd.N_below HN6.out HB8.out)).2.2
        have HBW8 := Lib.hid (HBW6.out.trans (HB8.out.mono HBW6.out.size))
        simp only [List.nil_append] at HC8
        (try simp only [List.nil_append])
        have HSN := Lib.hid (fun w' (hw : Below w8.heap.size w8 w') => (by
          have := same_calls A6 A8 c6 c8 (l ++ [b]) (l ++ [b]) (Kd.C_below HC6.out hw) (Kd.C_below HC8.out hw) (fun z hz => (HLRN.out z hz).1) (fun z hz => (HLRN.out z hz).1)
          rw [decide_eq_true rfl] at this
          exact this : Calls Tryd.prog 14 #[.slice A6 (l ++ [b]).length c6, .slice A8 (l ++ [b]).length c8] w' fun e w2 => e = .returned (.bool true) ∧ Below w'.heap.size w' w2))
        obtain ⟨n6, hn6⟩ : ∃ n6, (l ++ [b]).length = n6 := ⟨_, rfl⟩
        rw [hn6] at HSN ⊢
        have HSW := Lib.hid (by
          have := same_calls A6 A15 c6 c15 (l ++ [b]) l HC6.out (by have := HC15.out; exact this) (fun z hz => (HLRN.out z hz).1) (fun z hz => (HLR.out z hz).1)
          rw [decide_eq_false (fun e => by have := congrArg List.length e; simp at this), hn6, HN15.out] at this
          exact this : Calls Tryd.prog 14 #[.slice A6 n6 c6, .slice A15 n15 c15] w8 fun e w2 => e = .returned (.bool false) ∧ Below w8.heap.size w8 w2)
        clear hn6
        go_wp2_with (first
          | (go_at_call 14; (with_reducible refine HSW.out.mono ?_); rintro e w9 ⟨rfl, hb9⟩; have HB9 := Lib.hid hb9; clear hb9)
          | (go_at_call 14; (with_reducible refine (HSN.out _ HB9.out).mono ?_); rintro e wx ⟨rfl, hbx⟩; have HBX := Lib.hid (below_step HB9.out hbx); clear hbx))
        go_ret
        exact ⟨rfl, below_step HBW8.out HBX.out⟩

end
end Go.Proofs.YtnobhjpobnmiaaaDoor.Wl
/- WalWhole: the law's answer, wherever its arguments are of their kinds. -/
namespace Go.Proofs.YtnobhjpobnmiaaaDoor.Q
/-- nothing stands here: the rows open this name -/
theorem nothingWhole : True := trivial
end Go.Proofs.YtnobhjpobnmiaaaDoor.Q
namespace Go.Proofs.YtnobhjpobnmiaaaDoor.Wl
open Go Go.RowKit Go.Proofs.YtnobhjpobnmiaaaDoorW.PrintWords
set_option linter.unusedVariables false

open Classical in
noncomputable def cantonlaw05_WalWhole.f (a0 : Int) (l1 : List (List Int)) (l2 : List Int) (a3 : Int) (l4 : List Bool) : Option Bool := if (0 ≤ a0 ∧ a0 ≤ 65535) ∧ (0 ≤ a3 ∧ a3 ≤ 255) ∧ (∀ y ∈ l1, ∀ u ∈ y, 0 ≤ u ∧ u ≤ 255) ∧ ∀ u ∈ l2, 0 ≤ u ∧ u ≤ 255 then some true else none
theorem cantonlaw05_WalWhole.calls (a0 : Int) (A1 : Option Addr) (c1 : Nat) (l1 : List (List Int)) (A2 : Option Addr) (c2 : Nat) (l2 : List Int) (a3 : Int) (A4 : Option Addr) (c4 : Nat) (l4 : List Bool) (r : Bool) (w : World) (hr1 : Kd.C (Kd.slice 5 (Kd.int .u8)) w A1 l1.length l1) (hc1 : l1.length ≤ c1) (hr2 : Kd.C (Kd.int .u8) w A2 l2.length l2) (hc2 : l2.length ≤ c2) (hr4 : Kd.C Kd.bool w A4 l4.length l4) (hc4 : l4.length ≤ c4) (h : cantonlaw05_WalWhole.f a0 l1 l2 a3 l4 = some r) :
    Calls Tryd.prog 7 #[.int .u16 a0, .slice A1 l1.length c1, .slice A2 l2.length c2, .int .u8 a3, .slice A4 l4.length c4] w fun e w' => e = .returned (.bool r) ∧ Below w.heap.size w w' := by
  unfold cantonlaw05_WalWhole.f at h
  split at h
  · next hx =>
    cases h
    exact walWhole_walk a0 a3 hx.1.1 hx.1.2 hx.2.1.1 hx.2.1.2 A1 c1 l1 hr1 hx.2.2.1 A2 c2 l2 hr2 hc2 hx.2.2.2 A4 c4 l4 hr4
  · cases h
end Go.Proofs.YtnobhjpobnmiaaaDoor.Wl
/- What an argument's data say of its cells, kind by kind: the rows of laws over slices of structs lean on it. -/
namespace Go.Proofs.YtnobhjpobnmiaaaDoor.Opens
open Go Go.RowKit Go.ChangeShapes Go.WideShapes Go.Proofs.YtnobhjpobnmiaaaDoorW.PrintWords

/-- Whatever reads at type t is of kind d; its weights allow Wf. -/
def Op (P : Program) (t : TypeId) {α : Type} (d : Kd α) (Wf : α → Prop) : Prop :=
  ∀ {H : Type} {enc : TypeId × Value → H} {w : World} {base : Nat} {spare : Nat → Bool} {held : Bool} {fuel : Nat} {cs : List Value} {x : DataW H × List MemPlace},
    DataW.trod enc P w base spare held fuel t cs = some x → (∀ n ∈ x.1.weights P t, n ≤ reachBytes) → ∃ a : α, d.K w a cs ∧ Wf a

theorem op_int {P : Program} {t : TypeId} {k : IntKind} (ht : P.underlying t = some (.int k)) : Op P t (Kd.int k) (fun n => (Lit.int k n).wf = true) := by
  intro H enc w base spare held fuel cs x h _
  obtain ⟨n, rfl, rfl, hw⟩ := DataW.trod_int ht h
  exact ⟨n, rfl, hw⟩
theorem op_string {P : Program} {t : TypeId} (ht : P.underlying t = some .string) : Op P t Kd.string (fun s => s.size ≤ 140737488351232) := by
  intro H enc w base spare held fuel cs x h hw
  obtain ⟨s, rfl, rfl, _⟩ := DataW.trod_string ht h
  refine ⟨s, rfl, ?_⟩
  have h1 := hw s.data.toList.length (by simp [DataW.weights])
  have h2 : s.data.toList.length = s.size := by simp
  have h3 : reachBytes ≤ 140737488351232 := by decide
  omega
theorem op_bool {P : Program} {t : TypeId} (ht : P.underlying t = some .bool) : Op P t Kd.bool (fun _ => True) := by
  intro H enc w base spare held fuel cs x h _
  obtain ⟨b, rfl, _⟩ := DataW.trod_bool ht h
  exact ⟨b, rfl, trivial⟩
theorem weightsAll_mem {H : Type} {P : Program} {e : TypeId} : ∀ {l : List (DataW H)} {d : DataW H}, d ∈ l → ∀ n ∈ d.weights P e, n ∈ DataW.weightsAll P e l
  | d0 :: l, d, h, n, hn => by
    rw [DataW.weightsAll, List.mem_append]
    rcases List.mem_cons.1 h with rfl | h
    · exact .inl hn
    · exact .inr (weightsAll_mem h n hn)
/-- The cells of a row, read one by one. -/
theorem cells_at {w : World} {base : Nat} {a : Addr} {n : Nat} {cs : List Value} (h : w.cells? base a n = some cs) : cs.length = n ∧ ∀ i u, cs[i]? = some u → w.cell? (a.add i) = some u := by
  obtain ⟨_, hl, hat⟩ := World.cells?_some h
  refine ⟨hl, fun i u hu => ?_⟩
  have hi : i < n := by rw [← hl]; exact (List.getElem?_eq_some_iff.1 hu).1
  rw [hat i hi, hu]
theorem list_of {α : Type} (Q : Nat → α → Prop) : ∀ len : Nat, (∀ i, i < len → ∃ y, Q i y) → ∃ l : List α, l.length = len ∧ ∀ i y, l[i]? = some y → Q i y
  | 0, _ => ⟨[], rfl, fun i y h => by simp at h⟩
  | len + 1, h => by
    obtain ⟨l, hl, hq⟩ := list_of Q len (fun i hi => h i (by omega))
    obtain ⟨y, hy⟩ := h len (by omega)
    refine ⟨l ++ [y], by simp [hl], fun i z hz => ?_⟩
    rcases Nat.lt_or_ge i l.length with hi | hi
    · rw [List.getElem?_append_left hi] at hz
      exact hq i z hz
    · rw [List.getElem?_append_right hi] at hz
      have : i = l.length := by
        have := (List.getElem?_eq_some_iff.1 hz).1
        simp at this
        omega
      subst this
      simp at hz
      subst hz
      rw [hl]
      exact hy
theorem op_slice {P : Program} {t e : TypeId} {α : Type} {d : Kd α} {Wf : α → Prop} (q : Nat) (ht : P.underlying t = some (.slice e)) (hc : P.cellsOf e = d.sz) {B : Nat} (hB : P.bytesOf e = B) (he : Op P e d Wf) :
    Op P t (Kd.slice q d) (fun l => l.length ≤ 9223372036854775807 ∧ l.length * B ≤ 140737488351232 ∧ ∀ x ∈ l, Wf x) := by
  intro H enc w base spare held fuel cs x h hw
  rcases Go.Deep.open_slice ht h with ⟨rfl, rfl⟩ | ⟨a, len, cap, m, n, D, Pl, rfl, _, hl, hm, hmm, rfl, hi⟩
  · exact ⟨[], ⟨none, 0, rfl, Nat.le_refl _, ⟨rfl, by simp, fun h0 => absurd h0 (Nat.lt_irrefl 0)⟩⟩, by simp, by simp, fun x hx => by simp at hx⟩
  · have hlm : len ≤ m := by rw [hmm]; split <;> omega
    have hwt : ∀ i, i < len → ∀ n ∈ (D i).weights P e, n ≤ reachBytes := fun i hil n hn => hw n (by
      rw [DataW.weights, ht]
      exact List.mem_cons_of_mem _ (List.mem_append_left _ (weightsAll_mem (List.mem_map.2 ⟨i, List.mem_range.2 hil, rfl⟩) n hn)))
    obtain ⟨l, hll, hq⟩ := list_of (fun i (y : α) => ∃ c : List Value, c.length = d.sz ∧ d.K w y c ∧ Wf y ∧ ∀ j u, c[j]? = some u → w.cell? (a.add (i * d.sz + j)) = some u) len (fun i hil => by
      obtain ⟨cs', hcs, htr⟩ := hi i (by omega)
      obtain ⟨y, hy, hwy⟩ := he htr (hwt i hil)
      rw [hc] at hcs
      obtain ⟨hlen, hat⟩ := cells_at hcs
      exact ⟨y, cs', hlen, hy, hwy, fun j u hu => by rw [← Go.Deep.add_add]; exact hat j u hu⟩)
    have hmax : len ≤ 9223372036854775807 := by unfold maxLen at hm; omega
    subst hll
    refine ⟨l, ⟨some a, cap, rfl, hl, ⟨rfl, hmax, fun _ => ⟨a, rfl, fun j p hj => ?_⟩⟩⟩, hmax, ?_, fun y hy => ?_⟩
    · obtain ⟨c, h1, h2, _, h3⟩ := hq j p hj
      exact ⟨c, h1, h2, h3⟩
    · have h3 : reachBytes ≤ 140737488351232 := by decide
      have z := hw ((((List.range l.length).map D).length + ((List.range (m - l.length)).map fun j => D (l.length + j)).length) * P.bytesOf e) (by rw [DataW.weights, ht]; exact List.mem_cons_self)
      rw [hB] at z
      have : l.length * B ≤ (((List.range l.length).map D).length + ((List.range (m - l.length)).map fun j => D (l.length + j)).length) * B := Nat.mul_le_mul_right _ (by simp)
      exact Nat.le_trans (Nat.le_trans this z) h3
    · obtain ⟨j, hj, rfl⟩ := List.getElem_of_mem hy
      obtain ⟨_, _, _, h2, _⟩ := hq j _ (List.getElem?_eq_getElem hj)
      exact h2
/-! Structs: the fields from a place on. -/
def OpF (P : Program) (fs : List Field) (o : Nat) {α : Type} (d : Kd α) (Wf : α → Prop) : Prop :=
  ∀ {H : Type} {enc : TypeId × Value → H} {w : World} {base : Nat} {spare : Nat → Bool} {held : Bool} {n : Nat} {cs : List Value} {xs : List (DataW H × List MemPlace)},
    xs.length = fs.length → (∀ (i : Nat) (f : Field), fs[i]? = some f → DataW.trod enc P w base spare held n f.type ((cs.drop f.offset).take (P.cellsOf f.type)) = xs[i]?) → cs.length = o + d.sz →
      (∀ n ∈ DataW.weightsEach P (fs.map fun f : Field => f.type) (xs.map (·.1)), n ≤ reachBytes) → ∃ a : α, d.K w a (cs.drop o) ∧ Wf a
theorem opF_one {P : Program} {f : Field} {o : Nat} {α : Type} {d : Kd α} {Wf : α → Prop} (ho : f.offset = o) (hc : P.cellsOf f.type = d.sz) (h : Op P f.type d Wf) : OpF P [f] o d Wf := by
  intro H enc w base spare held n cs xs hl hf hcs hw
  match xs, hl with
  | [x], _ =>
    have h0 := hf 0 f rfl
    rw [ho, hc, List.take_of_length_le (by rw [List.length_drop]; omega)] at h0
    exact h h0 (fun n hn => hw n (by simp only [List.map_cons, List.map_nil, DataW.weightsEach, List.append_nil]; exact hn))
theorem opF_cons {P : Program} {f : Field} {fs : List Field} {o : Nat} {α β : Type} {d : Kd α} {d' : Kd β} {Wf : α → Prop} {Wg : β → Prop} (ho : f.offset = o) (hc : P.cellsOf f.type = d.sz) (h : Op P f.type d Wf) (hs : OpF P fs (o + d.sz) d' Wg) :
    OpF P (f :: fs) o (Kd.pair d d') (fun x => Wf x.1 ∧ Wg x.2) := by
  intro H enc w base spare held n cs xs hl hf hcs hw
  match xs, hl with
  | x :: xs, hl =>
    have hcs' : cs.length = o + (d.sz + d'.sz) := hcs
    have h0 := hf 0 f rfl
    rw [ho, hc] at h0
    obtain ⟨a, ha, hwa⟩ := h h0 (fun n hn => hw n (by simp only [List.map_cons, DataW.weightsEach]; exact List.mem_append_left _ hn))
    obtain ⟨b, hb, hwb⟩ := hs (cs := cs) (xs := xs) (by simpa using hl) (fun i g hg => by simpa using hf (i + 1) g (by simpa using hg)) (by omega) (fun n hn => hw n (by simp only [List.map_cons, DataW.weightsEach]; exact List.mem_append_right _ hn))
    refine ⟨(a, b), ⟨_, _, ?_, ha, hb⟩, hwa, hwb⟩
    rw [← List.drop_drop, List.take_append_drop]
theorem op_struct {P : Program} {t : TypeId} {fs : Array Field} {α : Type} {d : Kd α} {Wf : α → Prop} (ht : P.underlying t = some (.struct fs)) (hc : P.cellsOf t = d.sz) (h : OpF P fs.toList 0 d Wf) : Op P t d Wf := by
  intro H enc w base spare held fuel cs x htr hw
  obtain ⟨xs, n, _, rfl, hl, hxl, hf⟩ := DataW.trod_struct ht htr
  have := h (xs := xs) (cs := cs) (n := n) (by simpa using hxl) (fun i f hi => hf i f (by simpa using hi)) (by omega) (fun n hn => hw n (by rw [DataW.weights, ht]; exact hn))
  simpa using this
theorem op_iso {P : Program} {t : TypeId} {α β : Type} {d : Kd α} {Wf : α → Prop} (f : β → α) (g : α → β) (hfg : ∀ a, f (g a) = a) (h : Op P t d Wf) : Op P t (Kd.iso d f) (fun b => Wf (f b)) := by
  intro H enc w base spare held fuel cs x htr hw
  obtain ⟨a, ha, hwa⟩ := h htr hw
  exact ⟨g a, by show d.K w (f (g a)) cs; rw [hfg]; exact ha, by show Wf (f (g a)); rw [hfg]; exact hwa⟩
theorem op_imp {P : Program} {t : TypeId} {α : Type} {d : Kd α} {Wf Wg : α → Prop} (h : Op P t d Wf) (hi : ∀ a, Wf a → Wg a) : Op P t d Wg := by
  intro H enc w base spare held fuel cs x htr hw
  obtain ⟨a, ha, hwa⟩ := h htr hw
  exact ⟨a, ha, hi a hwa⟩
/-- An argument's own weights. -/
theorem own_weights {H : Type} {P : Program} {ts : List TypeId} {ds : List (DataW H)} (h : (DataW.weightsEach P ts ds).all (· ≤ reachBytes) = true) {j : Nat} {t : TypeId} {d : DataW H} (ht : ts[j]? = some t) (hd : ds[j]? = some d) : ∀ n ∈ d.weights P t, n ≤ reachBytes := by
  intro n hn
  have := List.all_eq_true.1 h _ (DataW.weights_mem_each ht hd n hn)
  simpa using this
/-- An argument: its cells. -/
theorem arg_open {H : Type} {enc : TypeId × Value → H} {P : Program} {w : World} {base : Nat} {spare : Nat → Bool} {held : Bool} {t : TypeId} {v : Value} {d : DataW H} {ps : List MemPlace} {α : Type} {k : Kd α} {Wf : α → Prop} (ho : Op P t k Wf) (h : DataW.Trod enc P w base spare held t v d ps) (hw : ∀ n ∈ d.weights P t, n ≤ reachBytes) : ∃ a : α, k.K w a v.cells.toList ∧ Wf a := by
  obtain ⟨fuel, hf⟩ := h
  exact ho hf hw
end Go.Proofs.YtnobhjpobnmiaaaDoor.Opens
/- What the law WalWhole asks, without memory; how its arguments open. -/
namespace Go.Proofs.YtnobhjpobnmiaaaDoor.OpensWalWhole
open Go Go.RowKit Go.Proofs.YtnobhjpobnmiaaaDoor.Opens Go.Proofs.YtnobhjpobnmiaaaDoor.Q Go.Proofs.YtnobhjpobnmiaaaDoorW.PrintWords Go.Proofs.YtnobhjpobnmiaaaDoor.Wl
theorem opArg1 : Opens.Op Tryd.prog 30 (Kd.slice 22 (Kd.slice 5 (Kd.int .u8))) (fun x => x.length ≤ 9223372036854775807 ∧ x.length * 24 ≤ 140737488351232 ∧ ∀ y ∈ x, y.length ≤ 9223372036854775807 ∧ y.length * 1 ≤ 140737488351232 ∧ ∀ z ∈ y, (Lit.int .u8 z).wf = true) := (op_slice 22 Tryd.underlying30 (by kernel_rfl) (by kernel_rfl) (op_slice 5 Tryd.underlying22 (by kernel_rfl) (by kernel_rfl) (op_int Tryd.underlying5)))
theorem opArg2 : Opens.Op Tryd.prog 22 (Kd.slice 5 (Kd.int .u8)) (fun x => x.length ≤ 9223372036854775807 ∧ x.length * 1 ≤ 140737488351232 ∧ ∀ y ∈ x, (Lit.int .u8 y).wf = true) := (op_slice 5 Tryd.underlying22 (by kernel_rfl) (by kernel_rfl) (op_int Tryd.underlying5))
theorem opArg4 : Opens.Op Tryd.prog 42 (Kd.slice 4 Kd.bool) (fun x => x.length ≤ 9223372036854775807 ∧ x.length * 1 ≤ 140737488351232 ∧ ∀ y ∈ x, True) := (op_slice 4 Tryd.underlying42 (by kernel_rfl) (by kernel_rfl) (op_bool Tryd.underlying4))
/-- THE ONE PURE STATEMENT. -/
def Pure : Prop := ∀ (a0 : Int) (l1 : (List (List Int))) (l2 : (List Int)) (a3 : Int) (l4 : (List Bool)), ((Lit.int .u16 a0).wf = true) → (l1.length ≤ 9223372036854775807 ∧ l1.length * 24 ≤ 140737488351232 ∧ ∀ y ∈ l1, y.length ≤ 9223372036854775807 ∧ y.length * 1 ≤ 140737488351232 ∧ ∀ z ∈ y, (Lit.int .u8 z).wf = true) → (l2.length ≤ 9223372036854775807 ∧ l2.length * 1 ≤ 140737488351232 ∧ ∀ y ∈ l2, (Lit.int .u8 y).wf = true) → ((Lit.int .u8 a3).wf = true) → (l4.length ≤ 9223372036854775807 ∧ l4.length * 1 ≤ 140737488351232 ∧ ∀ y ∈ l4, True) → cantonlaw05_WalWhole.f a0 l1 l2 a3 l4 = some true
end Go.Proofs.YtnobhjpobnmiaaaDoor.OpensWalWhole
/- WalWhole, without memory: the walk shows it true. -/
namespace Go.Proofs.YtnobhjpobnmiaaaDoor.Pure
open Go Go.RowKit Go.Proofs.YtnobhjpobnmiaaaDoor.Wl Go.Proofs.YtnobhjpobnmiaaaDoor.OpensWalWhole
theorem wlW16 {y : Int} (h : (Lit.int .u16 y).wf = true) : 0 ≤ y ∧ y ≤ 65535 := by
  simp only [Lit.wf, Bool.and_eq_true, decide_eq_true_eq] at h
  exact ⟨Int.le_trans (by decide) h.1, Int.le_trans h.2 (by decide)⟩
theorem wlW8 {y : Int} (h : (Lit.int .u8 y).wf = true) : 0 ≤ y ∧ y ≤ 255 := by
  simp only [Lit.wf, Bool.and_eq_true, decide_eq_true_eq] at h
  exact ⟨Int.le_trans (by decide) h.1, Int.le_trans h.2 (by decide)⟩
theorem WalWhole : OpensWalWhole.Pure := by
  intro a0 l1 l2 a3 l4 h0 h1 h2 h3 h4
  unfold cantonlaw05_WalWhole.f
  rw [if_pos ⟨wlW16 h0, wlW8 h3, fun y hy u hu => wlW8 ((h1.2.2 y hy).2.2 u hu), fun u hu => wlW8 (h2.2.2 u hu)⟩]
end Go.Proofs.YtnobhjpobnmiaaaDoor.Pure
namespace Go.Proofs.YtnobhjpobnmiaaaDoor.walWhole
open Go.ChangeShapes Go.WideShapes Go.ChangeAt Go.RowKit
open Go.ChangeMaps (open_string shut_string)
set_option linter.unusedVariables false
theorem own : ownKnob Tryd.prog.godebug = none := by kernel_rfl
theorem laidOut : laidOutB Tryd.prog = true := by kernel_rfl
def laidAll : List (String × DataW Unit) := [("unicode/utf8.acceptRanges", Rows.laid_unicode_utf8_acceptRanges), ("unicode/utf8.first", Rows.laid_unicode_utf8_first)]
set_option maxRecDepth 100000 in
theorem lifted (os : Os) (started : os.Started) (H : Type) (enc : TypeId × Value → H) :
    ReturnsInHanded {} Tryd.checked os 7 .any (fun w args => (Rows.walWholeSpec.pre enc Tryd.prog Tryd.f7 [] false w args ∧ laidMetH Tryd.prog laidAll w) ∧ sizedMet enc Tryd.prog Tryd.f7 (OpenSpec.ofChange Rows.walWholeSpec) false w args) (Rows.walWholeSpec.post enc Tryd.prog Tryd.f7 false true false false) := by
  refine returnsInHanded_of_change_and (C := Tryd.checked) (X := fun w _ => laidMetH Tryd.prog laidAll w) (fun _ _ _ hh h => h.of_heap hh) own started (by kernel_rfl) Tryd.func7
    (ChangeSpec.witness_shaped (enc := enc) (C := Tryd.checked) (os := os) (X := fun w _ => laidMetH Tryd.prog laidAll w) false (World.laidAll Tryd.prog os laidAll) #[.int .u16 0, .slice none 0 0, .slice none 0 0, .int .u8 0, .slice none 0 0] 8 (World.laidAll_os _ _ _)
      (World.shaped_of_ZipB (by kernel_rfl) (by kernel_rfl)) (by kernel_rfl) (by kernel_rfl) (by kernel_rfl)
      (by rw [MakeChecks.laidMetH_plain _ _ _ (by kernel_rfl)]; exact laidMet_laidAll _ (by kernel_rfl) (by kernel_rfl))) ?_
  intro W base args ds gs before hval0 hW hcnd hsz0 hL _
  have hsz : (DataW.weightsEach Tryd.prog (Tryd.f7.params.toList ++ Rows.walWholeSpec.plain.varTypes Tryd.prog) (ds ++ gs)).all (· ≤ reachBytes) = true := hsz0
  have hval : ∀ (j : Nat) t v, Tryd.f7.params[j]? = some t → args[j]? = some v → Value.okWide Tryd.prog W .any base t v := hval0
  have hW' := hW
  obtain ⟨p, q, hA0, hV, rfl, hfz, hnd⟩ := hW
  have hA : DataW.TrodAll enc Tryd.prog W 0 (fun _ => true) true Tryd.f7.params.toList args.toList ds p := hA0
  rw [Tryd.params7] at hA hval hsz
  obtain ⟨v0, vs0, d0, ds0, p0, q0, hargs, rfl, rfl, h0, r0⟩ := trodAll_cons hA
  obtain ⟨v1, vs1, d1, ds1, p1, q1, rfl, rfl, rfl, h1, r1⟩ := trodAll_cons r0
  obtain ⟨v2, vs2, d2, ds2, p2, q2, rfl, rfl, rfl, h2, r2⟩ := trodAll_cons r1
  obtain ⟨v3, vs3, d3, ds3, p3, q3, rfl, rfl, rfl, h3, r3⟩ := trodAll_cons r2
  obtain ⟨v4, vs4, d4, ds4, p4, q4, rfl, rfl, rfl, h4, r4⟩ := trodAll_cons r3
  obtain ⟨rfl, rfl, rfl⟩ := trodAll_nil r4
  obtain rfl : args = #[v0, v1, v2, v3, v4] := by cases args; simp_all
  obtain ⟨rfl, rfl⟩ := trodVars_none hV
  obtain ⟨a0, rfl, rfl, rfl, w0⟩ := open_int Tryd.underlying35 (hval 0 35 v0 rfl rfl) h0
  have k1 := h1
  have lt1 : ∀ x ∈ p1, x.block < W.heap.size := by obtain ⟨m, hm⟩ := k1; exact DataW.trod_lt m _ _ _ hm
  obtain ⟨ad1, len1, cap1, rfl⟩ := okWide_slice Tryd.underlying30 (hval 1 30 v1 rfl rfl)
  obtain ⟨l1, ⟨A1, c1, he1, hc1, hr1⟩, w1⟩ := Opens.arg_open OpensWalWhole.opArg1 h1 (Opens.own_weights hsz (j := 1) (t := 30) rfl rfl)
  simp [Value.cells] at he1
  obtain ⟨rfl, rfl, rfl⟩ := he1
  have k2 := h2
  have lt2 : ∀ x ∈ p2, x.block < W.heap.size := by obtain ⟨m, hm⟩ := k2; exact DataW.trod_lt m _ _ _ hm
  obtain ⟨ad2, len2, cap2, rfl⟩ := okWide_slice Tryd.underlying22 (hval 2 22 v2 rfl rfl)
  obtain ⟨l2, ⟨A2, c2, he2, hc2, hr2⟩, w2⟩ := Opens.arg_open OpensWalWhole.opArg2 h2 (Opens.own_weights hsz (j := 2) (t := 22) rfl rfl)
  simp [Value.cells] at he2
  obtain ⟨rfl, rfl, rfl⟩ := he2
  obtain ⟨a3, rfl, rfl, rfl, w3⟩ := open_int Tryd.underlying5 (hval 3 5 v3 rfl rfl) h3
  have k4 := h4
  have lt4 : ∀ x ∈ p4, x.block < W.heap.size := by obtain ⟨m, hm⟩ := k4; exact DataW.trod_lt m _ _ _ hm
  obtain ⟨ad4, len4, cap4, rfl⟩ := okWide_slice Tryd.underlying42 (hval 4 42 v4 rfl rfl)
  obtain ⟨l4, ⟨A4, c4, he4, hc4, hr4⟩, w4⟩ := Opens.arg_open OpensWalWhole.opArg4 h4 (Opens.own_weights hsz (j := 4) (t := 42) rfl rfl)
  simp [Value.cells] at he4
  obtain ⟨rfl, rfl, rfl⟩ := he4
  clear hA0 hval0 hsz0 hsz
  have hk := Pure.WalWhole a0 l1 l2 a3 l4 w0 w1 w2 w3 w4
  refine (Wl.cantonlaw05_WalWhole.calls a0 _ _ l1 _ _ l2 a3 _ _ l4 true W hr1 hc1 hr2 hc2 hr4 hc4 hk).mono fun e W' ⟨he, bel⟩ => ?_
  subst he
  exact ⟨_, rfl, _, _, _, [], _, [], hW', trodAll_mk1 (shut_bool Tryd.underlying4 _), (trodAll_cons_mk (shut_int Tryd.underlying35 w0) (trodAll_cons_mk (Below.trod laidOut (by kernel_rfl) (of_decide_eq_true (by kernel_rfl)) k1 bel lt1) (trodAll_cons_mk (Below.trod laidOut (by kernel_rfl) (of_decide_eq_true (by kernel_rfl)) k2 bel lt2) (trodAll_cons_mk (shut_int Tryd.underlying5 w3) (trodAll_cons_mk (Below.trod laidOut (by kernel_rfl) (of_decide_eq_true (by kernel_rfl)) k4 bel lt4) trodAll_mk0))))), rfl, bel.frame _, fun h => by cases h⟩
theorem over : Rows.walWholeRow.holds Tryd.pinned (OpenSpec.ofChange Rows.walWholeSpec) :=
  OpenClaim.holds_of_wide 7 Tryd.f7 rfl rfl rfl rfl rfl rfl rfl ⟨rfl, rfl, rfl, rfl, rfl⟩ rfl rfl rfl rfl rfl (by kernel_rfl) Tryd.func7 (by kernel_rfl)
    (of_decide_eq_true (by kernel_rfl)) (by unfold Func.isWrapper; first | (rw [if_pos (by decide +kernel)]; kernel_rfl) | (rw [if_neg (by decide +kernel)]; exact ⟨rfl, rfl⟩))
    (fun os started H enc _ => lifted os started H enc)
theorem proved : Rows.WalWholeSaid := over
#print axioms proved
end Go.Proofs.YtnobhjpobnmiaaaDoor.walWhole
namespace Go.Proofs.YtnobhjpobnmiaaaDoor
/-- The tied card. -/
theorem walWhole_holds : Rows.WalWholeCardSaid :=
  Claim7.holds_tied_plain_at .later [] [.data, .pinned] true (true, "442549d042403de336290946dd194b9b92c6199860f7f60e934d9152cb5298f0") false
    walWhole.proved (fun _ h => by cases h) (by kernel_rfl) (fun _ h => by cases h) walWhole_row_tie rfl ⟨rfl, rfl⟩ (by kernel_rfl) rfl
    (fun f fn hf hfn => by
      obtain rfl : f = 7 := Option.some.inj ((show Tryd.prog.funcNamed "canton/cantonlaw05.WalWhole" = some 7 by kernel_rfl).symm.trans hf) |>.symm
      obtain rfl : fn = Tryd.f7 := (Option.some.inj (Tryd.func7.symm.trans hfn)).symm
      exact ⟨by kernel_rfl, fun j t ht => by
        rw [Tryd.params7] at ht
        have hm : t ∈ [35, 30, 22, 5, 42] := by simpa using Array.mem_of_getElem? ht
        have hall : ([35, 30, 22, 5, 42].all fun u => !Tryd.prog.wantsStandIn u) = true := by kernel_rfl
        exact (show Tryd.prog.wantsStandIn t = false by simpa using List.all_eq_true.1 hall t hm)⟩)
    (by kernel_rfl)
#print axioms walWhole_holds
end Go.Proofs.YtnobhjpobnmiaaaDoor
