/- A log in memory: the walk of Start. -/
import Derived.Test.YtnobhjpobnmiaaaDoorWlC
namespace Go.Proofs.YtnobhjpobnmiaaaDoor.Wl
open Go Go.RowKit Go.Maps Go.Proofs Go.Proofs.YtnobhjpobnmiaaaDoor.Sk Go.Proofs.YtnobhjpobnmiaaaDoorW.PrintWords Go.Proofs.YtnobhjpobnmiaaaDoorW.PrintLast Go.Proofs.YtnobhjpobnmiaaaDoorW.PrintMore
set_option linter.unusedVariables false
set_option linter.unusedSimpArgs false

section
variable {W W' w : World} {p g cap m q : Nat} {s : D} {G : LS} {v : Value} {ok : Nat → Prop}
set_option maxHeartbeats 16000000 in
set_option maxRecDepth 100000 in
theorem start_calls (h : SR W p g cap m s) (o : Ok s) (ha : s.acts ≤ 999999980) (hL : LB W q p G v ok) (hok : ∀ k, ok k → k ≠ p ∧ k ≠ g ∧ k ≠ m ∧ k ≠ q) (ha1 : G.area ≤ 1) (ht : G.t ≤ 100000)
    {A : Option Addr} {c : Nat} (b : By) (hb : CB W A b.length b) (hbr : ∀ y ∈ b, 0 ≤ y ∧ y ≤ 255) (hbl : b.length ≤ 1000000) (hA : ∀ ad, A = some ad → 0 < b.length → ad.block ≠ p ∧ ad.block ≠ g ∧ ad.block ≠ m) :
    Calls Tryd.prog 16 #[.pointer (some ⟨q, 0, none⟩), .slice A b.length c] W (AppPost W p g cap m q ok (startD s G b)) := by
  obtain ⟨area, l, t⟩ := G
  have ha1 : area ≤ 1 := ha1
  have ht : t ≤ 100000 := ht
  have hbq : W.heap[q]? = some (.cells #[.pointer (some ⟨p, 0, none⟩), .int .i64 (area : Int), v, .int .i64 (t : Int)] 57 (0, 0)) := hL.blk
  obtain ⟨n, hn⟩ : ∃ n, b.length = n := ⟨_, rfl⟩
  have hnb : n ≤ 1000000 := by omega
  obtain ⟨w1, hw1⟩ : ∃ w1, (W.alloc (.cells #[.pointer (some ⟨q, 0, none⟩)] 26)).alloc (.cells #[.slice A n c] 22) = w1 := ⟨_, rfl⟩
  have hb1 : Below W.heap.size W w1 := by rw [← hw1]; exact below_alloc (below_alloc (Below.refl _ _) _) _
  have hz : (W.alloc (.cells #[.pointer (some ⟨q, 0, none⟩)] 26)).heap.size = W.heap.size + 1 := size_alloc _ _
  have k1 : w1.cell? ⟨W.heap.size, 0, none⟩ = some (.pointer (some ⟨q, 0, none⟩)) := by
    rw [← hw1]
    exact cell_keep0 (below_alloc (Below.refl _ _) _) ((blk_cell (blk_new W (.cells #[.pointer (some ⟨q, 0, none⟩)] 26)) 0).trans rfl)
  have k3 : w1.cell? ⟨W.heap.size + 1, 0, none⟩ = some (.slice A n c) := by
    have := blk_new (W.alloc (.cells #[.pointer (some ⟨q, 0, none⟩)] 26)) (.cells #[.slice A n c] 22)
    rw [hz, hw1] at this
    exact (blk_cell this 0).trans rfl
  have HW1 := Lib.hid hw1
  have HB1 := Lib.hid hb1
  by_cases hbig : 16384 < n
  · have hbz : (n : Int) > 16384 := by omega
    have e : startD s ⟨area, l, t⟩ b = (s, 1, ⟨area, l, t⟩) := by unfold startD; rw [if_pos (by omega)]
    rw [e, hn]
    clear hn e hb1 hw1 hz
    go_enter Tryd.func16, Tryd.ntmps16
    go_upto_block 0 with (fail)
    rw [HW1.out]
    go_wp2_with fail
    go_ret
    exact ⟨rfl, h.below HB1.out, ⟨v, (hL.step HB1.out).mono (fun k hk => .inl hk)⟩, Kp.of_below HB1.out⟩
  have hbz : ¬ ((n : Int) > 16384) := by omega
  have HN := Lib.hid hn
  obtain ⟨hf, hhf⟩ : ∃ hf, half s.b.length = hf := ⟨_, rfl⟩
  obtain ⟨nd, hnd⟩ : ∃ nd, need n = nd := ⟨_, rfl⟩
  have HHH := Lib.hid hhf
  have HND := Lib.hid hnd
  have HNE := Lib.hid (fun w' => (show Calls Tryd.prog 34 #[.int .i64 (n : Int)] w' (fun e w2 => e = .returned (.int .i64 (nd : Int)) ∧ w2 = w') from by have := need_calls n (by omega) w'; rw [hnd] at this; exact this))
  have HHF := Lib.hid (fun w' (hw : Below W.heap.size W w') => (show Calls Tryd.prog 29 #[.pointer (some ⟨p, 0, none⟩)] w' (fun e w2 => e = .returned (.int .i64 (hf : Int)) ∧ w2 = w') from by have := half_calls (h.below hw) o; rw [hhf] at this; exact this))
  have HL := Lib.hid hL
  have H := Lib.hid h
  have HO := Lib.hid o
  have HB := Lib.hid hb
  have HBR := Lib.hid hbr
  have HOK := Lib.hid hok
  have HAA := Lib.hid hA
  have HQ1 := Lib.hid (blk_below hbq hb1)
  obtain ⟨d0, d1, d2, d3⟩ := cells4 HQ1.out
  obtain ⟨B2, hB2⟩ : ∃ B2, W.heap.size = B2 := ⟨_, rfl⟩
  have HB2 := Lib.hid hB2
  have HQLT := Lib.hid (blk_lt hbq)
  have HZ1 := Lib.hid (show w1.heap.size = W.heap.size + 2 by rw [← hw1, size_alloc, hz])
  rw [hB2] at k1 k3
  rw [hn]
  clear hL h o hb hbr hhf hnd hok hbq hbl hbig hA hn hz hw1 hb1
  by_cases hful : hf < nd
  · have hfz : (nd : Int) > (hf : Int) := by omega
    have HE := Lib.hid (show startD s ⟨area, l, t⟩ b = (s, 51, ⟨area, l, t⟩) by unfold startD; rw [if_neg (by rw [HN.out]; omega), if_pos (by rw [HN.out, HND.out, HHH.out]; omega)])
    clear hful
    go_enter Tryd.func16, Tryd.ntmps16
    go_upto_region 1 with (fail)
    rw [HW1.out]
    go_upto_region 3 with (fail)
    have HDR := Lib.hid (show Below W.heap.size W w1.drew from below_step HB1.out ⟨rfl, rfl, rfl, Nat.le_refl _, fun _ _ => rfl⟩)
    go_still_tail 9, (by kernel_rfl)
    still_call (HNE.out _)
    repeat still_step
    still_call (HHF.out _ HDR.out)
    repeat still_step
    refine wpStill_nil ?_
    change wpList _ _ _ _ _ w1.drew
    go_wp2_with fail
    go_ret
    rw [HE.out]
    exact ⟨rfl, H.out.below HDR.out, ⟨_, (HL.out.step HDR.out).mono (fun k hk => .inl hk)⟩, Kp.of_below HDR.out⟩
  · have hfz : ¬ ((nd : Int) > (hf : Int)) := by omega
    have HDR := Lib.hid (show Below W.heap.size W w1.drew from below_step HB1.out ⟨rfl, rfl, rfl, Nat.le_refl _, fun _ _ => rfl⟩)
    have hfp : hf ≤ 2048 := by rw [← HHH.out]; exact half_le (by have := HO.out.bl; have := HO.out.n2; omega)
    have hnb2 : n ≤ 16384 := by omega
    obtain ⟨oa, hoa⟩ : ∃ oa : Nat, 1 - area = oa := ⟨_, rfl⟩
    have hoa1 : oa ≤ 1 := by omega
    have r1 : IntKind.i64.wrap (1 - (area : Int)) = (oa : Int) := by rw [IntWalk.i64_in _ (by omega)]; omega
    have HOA := Lib.hid hoa
    have HE := Lib.hid (show startD s ⟨area, l, t⟩ b = ((startP s oa b).1, (startP s oa b).2, if (startP s oa b).2 = 0 then ⟨oa, [b], nd⟩ else ⟨area, l, t⟩) by
      unfold startD
      rw [if_neg (by rw [HN.out]; omega), if_neg (by rw [HN.out, HND.out, HHH.out]; omega)]
      show ((startP s (1 - area) b).1, (startP s (1 - area) b).2, if (startP s (1 - area) b).2 = 0 then _ else _) = _
      rw [hoa, HN.out, HND.out])
    have e1 : w1.drew.cell? ⟨B2, 0, none⟩ = some (.pointer (some ⟨q, 0, none⟩)) := k1
    have e3 : w1.drew.cell? ⟨B2 + 1, 0, none⟩ = some (.slice A n c) := k3
    have f1 : w1.drew.cell? ⟨q, 1, none⟩ = some (.int .i64 (area : Int)) := d1
    have HQ2 := Lib.hid (show w1.drew.heap[q]? = some (.cells #[.pointer (some ⟨p, 0, none⟩), .int .i64 (area : Int), v, .int .i64 (t : Int)] 57 (0, 0)) from HQ1.out)
    have HZ2 := Lib.hid (show w1.drew.heap.size = W.heap.size + 2 from HZ1.out)
    clear hful hoa
    go_enter Tryd.func16, Tryd.ntmps16
    go_upto_region 1 with (fail)
    rw [HW1.out]
    go_upto_region 3 with (fail)
    go_still_tail 9, (by kernel_rfl)
    still_call (HNE.out _)
    repeat still_step
    still_call (HHF.out _ HDR.out)
    repeat still_step
    refine wpStill_nil ?_
    change wpList _ _ _ _ _ w1.drew
    clear k1 k3 d0 d1 d2 d3
    generalize w1.drew = w2 at e1 e3 f1 HQ2 HZ2 HDR ⊢
    go_upto_region 6 with (fail)
    obtain ⟨w3, hw3⟩ : ∃ w3, w2.alloc (.cells #[.int .i64 (oa : Int)] 3) = w3 := ⟨_, rfl⟩
    have hb23 : Below w2.heap.size w2 w3 := by rw [← hw3]; exact below_alloc (Below.refl _ _) _
    have k5 : w3.cell? ⟨w2.heap.size, 0, none⟩ = some (.int .i64 (oa : Int)) := by rw [← hw3]; exact (blk_cell (blk_new w2 (.cells #[.int .i64 (oa : Int)] 3)) 0).trans rfl
    have k1 := cell_keep0 hb23 e1
    have k3 := cell_keep0 hb23 e3
    rw [hw3]
    have HB3 := Lib.hid (below_step HDR.out hb23)
    have HQ3 := Lib.hid (blk_below HQ2.out hb23)
    have HZ3 := Lib.hid (show W.heap.size + 2 < w3.heap.size by rw [← hw3, size_alloc, HZ2.out]; omega)
    obtain ⟨B5, hB5⟩ : ∃ B5, w2.heap.size = B5 := ⟨_, rfl⟩
    have HB5 := Lib.hid (show B5 = W.heap.size + 2 by rw [← hB5]; exact HZ2.out)
    rw [hB5] at k5 ⊢
    have HLT := Lib.hid H.out.lt
    have hlt := HLT.out
    have hb2v := HB2.out
    have hb5v := HB5.out
    have hqlt := HQLT.out
    have HNB := Lib.hid (show (B2 ≠ p ∧ B2 ≠ g ∧ B2 ≠ m) ∧ (B5 ≠ p ∧ B5 ≠ g ∧ B5 ≠ m) ∧ (B2 + 1 ≠ p ∧ B2 + 1 ≠ g ∧ B2 + 1 ≠ m) ∧ B2 ≠ q ∧ B5 ≠ q ∧ B2 + 1 ≠ q ∧ B2 < w3.heap.size ∧ B5 < w3.heap.size ∧ B2 + 1 < w3.heap.size by have := HZ3.out; omega)
    have HCB3 := Lib.hid (Kd.C_below HB.out HB3.out)
    clear hw3 hb23 e1 e3 f1 hB5 hlt hb2v hb5v hqlt
    refine start_six (s := s) (b2 := B2) (b3 := B2 + 1) (b5 := B5) (c := c) b (Nat.le_of_ble_eq_true rfl) rfl rfl rfl (H.out.below HB3.out) HO.out ha HQ3.out hoa1 HCB3.out HAA.out HBR.out (by rw [HN.out]; omega) k1 k5 (by rw [HN.out]; exact k3) HNB.out.1 HNB.out.2.1 HNB.out.2.2.1 ?_
    intro u26 u27 u28 u29 u30 u31 u32 u33 u34 u35 u36 u37 u38 u39 u40 u41 u42 u43 u44 u45 u46 u47 u48 u49 u50 u51 u52 u53 u54 u55 u56 u57 u58 w4 hs4 hf4
    obtain ⟨Y, hY⟩ : ∃ Y, startP s oa b = Y := ⟨_, rfl⟩
    rw [hY] at hs4 HE ⊢
    have HS4 := Lib.hid hs4
    have HF4 := Lib.hid hf4
    have hq4 := sr_ne (H.out.below HB3.out) HQ3.out (by decide) (by decide)
    have HQN := Lib.hid hq4
    have HQ4 := Lib.hid ((HF4.out.block q (blk_lt HQ3.out) hq4.1 hq4.2.1 hq4.2.2).trans HQ3.out)
    have HFW := Lib.hid ((Fr.of_below (p := p) (g := g) (m := m) HB3.out).trans HF4.out)
    obtain ⟨s7, r7⟩ := Y
    clear hY hs4 hf4 hq4
    simp only [puts, Act.put, List.setIfInBounds_toArray, List.set_cons_zero, List.set_cons_succ]
    by_cases hr7 : r7 = 0
    · subst hr7
      have HE2 := Lib.hid (HE.out.trans (by rw [if_pos rfl]))
      go_upto_region 8 with (fail)
      have kk : ∀ {x : Nat} {u : Value}, w3.cell? ⟨x, 0, none⟩ = some u → x ≠ p ∧ x ≠ g ∧ x ≠ m → w4.cell? ⟨x, 0, none⟩ = some u := fun hc hn => (World.cell?_of_block (a := ⟨_, 0, none⟩) (HF4.out.block _ (World.block_lt_of_cell? w3 _ hc) hn.1 hn.2.1 hn.2.2)).trans hc
      have hcb4 := CB.fr HCB3.out HF4.out HAA.out (cb_lt HCB3.out)
      rw [HN.out] at hcb4
      refine start_eight (p := p) (q := q) (b2 := B2) (b3 := B2 + 1) (b5 := B5) (nd := nd) b (Nat.le_of_ble_eq_true rfl) rfl rfl rfl HQ4.out HN.out (by omega) HND.out hcb4 (kk k1 HNB.out.1) (kk k5 HNB.out.2.1) (kk k3 HNB.out.2.2.1) HNB.out.2.2.2.1 HNB.out.2.2.2.2.1 HNB.out.2.2.2.2.2.1 ?_
      intro x61 x62 x63 x64 x65 x66 x67 x68 x69 x70 x71 x72 x73 x74 x75 x76 v5 w5 hat5 hr5
      have HS5 := Lib.hid (HS4.out.keep (hat5.rest p HS4.out.lt.1 (Ne.symm HQN.out.1)) (hat5.rest g HS4.out.lt.2.1 (Ne.symm HQN.out.2.1)) (hat5.rest m HS4.out.lt.2.2 (Ne.symm HQN.out.2.2)))
      have HLB := Lib.hid (show LB w5 q p ⟨oa, [b], nd⟩ v5 (fun k => ok k ∨ W.heap.size ≤ k) from ⟨hat5.blk, Kd.R_mono (Kd.R_lower (Kd.R_bound hr5) (Nat.zero_le _)) (fun k hk => .inr (Nat.le_trans HFW.out.size hk.2.1))⟩)
      have HKP := Lib.hid (show Kp W w5 (Own p g m q ok) from (Kp.of_fr HFW.out (.inl rfl) (.inr (.inl rfl)) (.inr (.inr (.inl rfl)))).trans ⟨hat5.size, fun i hi hx => hat5.rest i hi (fun e => hx (.inr (.inr (.inr (.inl e))))), hat5.os, hat5.tape, hat5.output⟩)
      clear hat5 hr5 hcb4 kk k1 k3 k5
      simp only [puts, Act.put, List.setIfInBounds_toArray, List.set_cons_zero, List.set_cons_succ]
      go_wp2_with fail
      go_ret
      rw [HE2.out]
      exact ⟨rfl, HS5.out, ⟨v5, HLB.out⟩, HKP.out⟩
    · have HE2 := Lib.hid (HE.out.trans (by rw [if_neg hr7]))
      go_wp2_with fail
      go_ret
      rw [HE2.out]
      exact ⟨rfl, HS4.out, ⟨v, HQ4.out, Kd.R_mono (Kd.R_step (Kd.R_below HL.out.rows HB3.out) (fun k hk hlt => HF4.out.block k hlt (HOK.out k hk).1 (HOK.out k hk).2.1 (HOK.out k hk).2.2.1)) (fun k hk => .inl hk)⟩, Kp.of_fr HFW.out (.inl rfl) (.inr (.inl rfl)) (.inr (.inr (.inl rfl)))⟩
end
end Go.Proofs.YtnobhjpobnmiaaaDoor.Wl
