/- A log in memory: the walk of Append. -/
import Derived.Test.YtnobhjpobnmiaaaDoorWl12
namespace Go.Proofs.YtnobhjpobnmiaaaDoor.Wl
open Go Go.RowKit Go.Maps Go.Proofs Go.Proofs.YtnobhjpobnmiaaaDoor.Sk Go.Proofs.YtnobhjpobnmiaaaDoorW.PrintWords Go.Proofs.YtnobhjpobnmiaaaDoorW.PrintLast Go.Proofs.YtnobhjpobnmiaaaDoorW.PrintMore
set_option linter.unusedVariables false
set_option linter.unusedSimpArgs false

/-- but for X's blocks all is as it was -/
structure Kp (w w' : World) (X : Nat → Prop) : Prop where
  size : w.heap.size ≤ w'.heap.size
  block : ∀ i, i < w.heap.size → ¬ X i → w'.heap[i]? = w.heap[i]?
  os : w'.os = w.os
  tape : w'.tape = w.tape
  output : w'.output = w.output
theorem Kp.refl (w : World) (X : Nat → Prop) : Kp w w X := ⟨Nat.le_refl _, fun _ _ _ => rfl, rfl, rfl, rfl⟩
theorem Kp.trans {w w1 w2 : World} {X : Nat → Prop} (h : Kp w w1 X) (k : Kp w1 w2 X) : Kp w w2 X := ⟨Nat.le_trans h.size k.size, fun i hi hx => (k.block i (Nat.lt_of_lt_of_le hi h.size) hx).trans (h.block i hi hx), k.os.trans h.os, k.tape.trans h.tape, k.output.trans h.output⟩
theorem Kp.of_below {w w1 : World} {X : Nat → Prop} (h : Below w.heap.size w w1) : Kp w w1 X := ⟨h.size, fun i hi _ => h.block i hi, h.os, h.tape, h.output⟩
theorem Kp.of_fr {w w1 : World} {p g m : Nat} {X : Nat → Prop} (h : Fr w w1 p g m) (hp : X p) (hg : X g) (hm : X m) : Kp w w1 X := ⟨h.size, fun i hi hx => h.block i hi (fun e => hx (e ▸ hp)) (fun e => hx (e ▸ hg)) (fun e => hx (e ▸ hm)), h.os, h.tape, h.output⟩
theorem Kp.mono {w w1 : World} {X Y : Nat → Prop} (h : Kp w w1 X) (hx : ∀ i, i < w.heap.size → X i → Y i) : Kp w w1 Y := ⟨h.size, fun i hi hy => h.block i hi (fun c => hy (hx i hi c)), h.os, h.tape, h.output⟩
theorem Kp.to_below {w w1 : World} {X : Nat → Prop} (h : Kp w w1 X) {B : Nat} (hX : ∀ i, X i → B ≤ i) (hB : B ≤ w.heap.size) : Below B w w1 := ⟨h.os, h.tape, h.output, h.size, fun i hi => h.block i (Nat.lt_of_lt_of_le hi hB) (fun c => by have := hX i c; omega)⟩
def Own (p g m q : Nat) (ok : Nat → Prop) (i : Nat) : Prop := i = p ∨ i = g ∨ i = m ∨ i = q ∨ ok i
section
variable {W W' w : World} {p g cap m q : Nat} {s : D} {G : LS} {v : Value} {ok : Nat → Prop}
theorem LB.step (h : LB W q p G v ok) (hb : Below W.heap.size W W') : LB W' q p G v ok := ⟨blk_below h.blk hb, Kd.R_below h.rows hb⟩
theorem LB.fr (h : LB W q p G v ok) (hs : SR W p g cap m s) (hf : Fr W W' p g m) (hok : ∀ k, ok k → k ≠ p ∧ k ≠ g ∧ k ≠ m) : LB W' q p G v ok := by
  have hq := sr_ne hs h.blk (by decide) (by decide)
  exact ⟨(hf.block q (blk_lt h.blk) hq.1 hq.2.1 hq.2.2).trans h.blk, Kd.R_step h.rows (fun k hk hlt => hf.block k hlt (hok k hk).1 (hok k hk).2.1 (hok k hk).2.2)⟩
theorem LB.mono {ok' : Nat → Prop} (h : LB W q p G v ok) (hk : ∀ k, ok k → ok' k) : LB W q p G v ok' := ⟨h.blk, Kd.R_mono h.rows hk⟩
def AppPost (W : World) (p g cap m q : Nat) (ok : Nat → Prop) (r : D × Int × LS) (e : Ending) (w' : World) : Prop :=
  e = .returned (.int .i64 r.2.1) ∧ SR w' p g cap m r.1 ∧ (∃ v', LB w' q p r.2.2 v' (fun k => ok k ∨ W.heap.size ≤ k)) ∧ Kp W w' (Own p g m q ok)
set_option maxHeartbeats 16000000 in
set_option maxRecDepth 100000 in
theorem append_calls (h : SR W p g cap m s) (o : Ok s) (ha : s.acts ≤ 999999990) (hL : LB W q p G v ok) (hok : ∀ k, ok k → k ≠ p ∧ k ≠ g ∧ k ≠ m ∧ k ≠ q) (ha1 : G.area ≤ 1) (ht : G.t ≤ 100000) (hl : G.l.length ≤ 100000)
    {A : Option Addr} {c : Nat} (b : By) (hb : CB W A b.length b) (hbr : ∀ y ∈ b, 0 ≤ y ∧ y ≤ 255) (hbl : b.length ≤ 1000000) (hA : ∀ ad, A = some ad → 0 < b.length → ad.block ≠ p ∧ ad.block ≠ g ∧ ad.block ≠ m) :
    Calls Tryd.prog 13 #[.pointer (some ⟨q, 0, none⟩), .slice A b.length c] W (AppPost W p g cap m q ok (appendD s G b)) := by
  obtain ⟨area, l, t⟩ := G
  have ha1 : area ≤ 1 := ha1
  have ht : t ≤ 100000 := ht
  have hl : l.length ≤ 100000 := hl
  have hbq : W.heap[q]? = some (.cells #[.pointer (some ⟨p, 0, none⟩), .int .i64 (area : Int), v, .int .i64 (t : Int)] 57 (0, 0)) := hL.blk
  obtain ⟨n, hn⟩ : ∃ n, b.length = n := ⟨_, rfl⟩
  have hnb : n ≤ 1000000 := by omega
  by_cases hbig : 16384 < n
  · have hbz : (n : Int) > 16384 := by omega
    have e : appendD s ⟨area, l, t⟩ b = (s, 1, ⟨area, l, t⟩) := by unfold appendD; rw [if_pos (by omega)]
    rw [e, hn]
    clear hn e
    go_enter Tryd.func13, Tryd.ntmps13
    go_wp2_with fail
    go_ret
    exact ⟨rfl, h, ⟨v, hL.mono (fun k hk => .inl hk)⟩, Kp.refl _ _⟩
  have hbz : ¬ ((n : Int) > 16384) := by omega
  have HN := Lib.hid hn
  obtain ⟨hf, hhf⟩ : ∃ hf, half s.b.length = hf := ⟨_, rfl⟩
  have hfp : hf ≤ 2048 := by rw [← hhf]; exact half_le (by have := o.bl; have := o.n2; omega)
  obtain ⟨nd, hnd⟩ : ∃ nd, need n = nd := ⟨_, rfl⟩
  have hndp : 1 ≤ nd ∧ nd ≤ 1026 := by rw [← hnd]; unfold need; omega
  have HNE := Lib.hid (fun w' => (show Calls Tryd.prog 34 #[.int .i64 (n : Int)] w' (fun e w2 => e = .returned (.int .i64 (nd : Int)) ∧ w2 = w') from by have := need_calls n (by omega) w'; rw [hnd] at this; exact this))
  have HHF := Lib.hid (fun w' (hw : Below W.heap.size W w') => (show Calls Tryd.prog 29 #[.pointer (some ⟨p, 0, none⟩)] w' (fun e w2 => e = .returned (.int .i64 (hf : Int)) ∧ w2 = w') from by have := half_calls (h.below hw) o; rw [hhf] at this; exact this))
  have HL := Lib.hid hL
  have H := Lib.hid h
  have HO := Lib.hid o
  have HB := Lib.hid hb
  have HBR := Lib.hid hbr
  have HHH := Lib.hid hhf
  have HND := Lib.hid hnd
  have HOK := Lib.hid hok
  obtain ⟨LA, lc, rfl, hlc, _⟩ := Kd.R_reads hL.rows
  obtain ⟨ll, hll⟩ : ∃ ll, l.length = ll := ⟨_, rfl⟩
  have hbq2 := hbq
  change W.heap[q]? = some (.cells #[_, _, .slice LA l.length lc, _] _ (0, 0)) at hbq2
  rw [hll] at hbq2
  obtain ⟨c0, c1, c2, c3⟩ := cells4 hbq2
  have HLLN := Lib.hid hll
  have hll5 : ll ≤ 100000 := by omega
  have HBQ := Lib.hid hbq2
  have hdr : Below W.heap.size W W.drew := ⟨rfl, rfl, rfl, Nat.le_refl _, fun _ _ => rfl⟩
  have HDR := Lib.hid hdr
  have HDR2 := Lib.hid (show Below W.heap.size W W.drew.drew from ⟨rfl, rfl, rfl, Nat.le_refl _, fun _ _ => rfl⟩)
  have r1 : IntKind.i64.wrap ((hf : Int) - (t : Int)) = (hf : Int) - (t : Int) := IntWalk.i64_in _ (by omega)
  rw [hn]
  clear hn hL h o hb hbr hhf hnd hok hbq hbq2 hll hl hbl hbig hdr hlc
  by_cases hful : hf < nd + t
  · have hfz : (nd : Int) > (hf : Int) - (t : Int) := by omega
    have HE := Lib.hid (show appendD s ⟨area, l, t⟩ b = (s, 51, ⟨area, l, t⟩) by unfold appendD; rw [if_neg (by rw [HN.out]; omega), if_pos (by show need b.length + t > half s.b.length; rw [HN.out, HND.out, HHH.out]; omega)])
    clear hful
    go_enter Tryd.func13, Tryd.ntmps13
    go_upto_region 3 with (fail)
    go_still_tail 14, (by kernel_rfl)
    still_call (HNE.out _)
    repeat still_step
    still_call (HHF.out _ HDR.out)
    repeat still_step
    refine wpStill_nil ?_
    change wpList _ _ _ _ _ W.drew
    go_wp2_with fail
    go_ret
    rw [HE.out]
    exact ⟨rfl, H.out.below HDR.out, ⟨_, (HL.out.step HDR.out).mono (fun k hk => .inl hk)⟩, Kp.of_below HDR.out⟩
  · have hfz : ¬ ((nd : Int) > (hf : Int) - (t : Int)) := by omega
    have hneq := sr_ne H.out HBQ.out (by decide) (by decide)
    have HPUT := Lib.hid (show Calls Tryd.prog 35 #[.pointer (some ⟨q, 0, none⟩), .int .i64 (area : Int), .int .i64 (t : Int), .int .i64 (ll : Int), .slice A n c] W.drew.drew (fun e w' => e = .returned (.int .i64 (putD s ((1 + area * half s.b.length + t) * 16) ll b).2) ∧ SR w' p g cap m (putD s ((1 + area * half s.b.length + t) * 16) ll b).1 ∧ Fr W.drew.drew w' p g m) from by
      have := lput_calls (c := c) (H.out.below HDR2.out) HO.out ha (blk_below HBQ.out HDR2.out) area t ll ha1 (by omega) (by omega) b (Kd.C_below HB.out HDR2.out) HBR.out (by rw [HN.out]; omega)
      rw [HN.out] at this
      exact this)
    have HE := Lib.hid (show appendD s ⟨area, l, t⟩ b = ((putD s ((1 + area * half s.b.length + t) * 16) ll b).1, (putD s ((1 + area * half s.b.length + t) * 16) ll b).2, if (putD s ((1 + area * half s.b.length + t) * 16) ll b).2 = 0 then ⟨area, l ++ [b], t + nd⟩ else ⟨area, l, t⟩) by
      unfold appendD
      rw [if_neg (by rw [HN.out]; omega), if_neg (by show ¬ (need b.length + t > half s.b.length); rw [HN.out, HND.out, HHH.out]; omega)]
      show ((putD s ((1 + area * half s.b.length + t) * 16) l.length b).1, (putD s ((1 + area * half s.b.length + t) * 16) l.length b).2, _) = _
      rw [HLLN.out, HN.out, HND.out])
    obtain ⟨Y, hY⟩ : ∃ Y, putD s ((1 + area * half s.b.length + t) * 16) ll b = Y := ⟨_, rfl⟩
    rw [hY] at HPUT HE
    have HNEQ := Lib.hid hneq
    have HAA := Lib.hid hA
    have HCB2 := Lib.hid (fun w2 (hf : Fr W.drew.drew w2 p g m) => (show CB w2 A n b from by
      have h2 := Kd.C_below HB.out HDR2.out
      rw [HN.out] at h2
      exact CB.fr h2 hf (fun ad e h0 => HAA.out ad e (by rw [HN.out]; exact h0)) (cb_lt h2)))
    obtain ⟨s2, r2⟩ := Y
    have c1d : W.drew.cell? ⟨q, 1, none⟩ = some (.int .i64 (area : Int)) := c1
    have c2d : W.drew.cell? ⟨q, 2, none⟩ = some (.slice LA ll lc) := c2
    have c3d : W.drew.cell? ⟨q, 3, none⟩ = some (.int .i64 (t : Int)) := c3
    have HQ2 := Lib.hid (fun w2 (hf : Fr W.drew.drew w2 p g m) => (hf.block q (blk_lt HBQ.out) HNEQ.out.1 HNEQ.out.2.1 HNEQ.out.2.2).trans HBQ.out)
    have HR2 := Lib.hid (fun w2 (hf : Fr W.drew.drew w2 p g m) => (show RB w2 0 (fun k => ok k ∨ W.heap.size ≤ k) (.slice LA l.length lc) l from by
      exact Kd.R_mono (Kd.R_step (Kd.R_below HL.out.rows HDR2.out) (fun k hk hlt => hf.block k hlt (HOK.out k hk).1 (HOK.out k hk).2.1 (HOK.out k hk).2.2.1)) (fun k hk => .inl hk)))
    have HFW := Lib.hid (fun w2 (hf : Fr W.drew.drew w2 p g m) => (Fr.of_below (p := p) (g := g) (m := m) HDR2.out).trans hf)
    clear hY hful hneq hA
    go_enter Tryd.func13, Tryd.ntmps13
    go_upto_region 3 with (fail)
    go_still_tail 14, (by kernel_rfl)
    still_call (HNE.out _)
    repeat still_step
    still_call (HHF.out _ HDR.out)
    repeat still_step
    refine wpStill_nil ?_
    change wpList _ _ _ _ _ W.drew
    clear c0 c1 c2 c3
    generalize W.drew = w1 at c1d c2d c3d HPUT HCB2 HQ2 HR2 HFW HDR HDR2 ⊢
    go_upto_region 5 with (fail)
    go_still_tail 15, (by kernel_rfl)
    change wpList _ _ _ _ _ w1.drew
    go_upto_region 6 with (go_at_call 35; (with_reducible refine HPUT.out.mono ?_); rintro e w2 ⟨rfl, hs2, hf2⟩; have HS2 := Lib.hid hs2; have HF2 := Lib.hid hf2; clear hs2 hf2)
    by_cases hr0 : r2 = 0
    · subst hr0
      have hE := HE.out.trans (by rw [if_pos rfl])
      have HE2 := Lib.hid hE
      clear hE
      go_upto_region 7 with (fail)
      have hq2 := HQ2.out _ HF2.out
      obtain ⟨_, _, d2, d3⟩ := cells4 hq2
      have hr2 := HR2.out _ HF2.out
      rw [HLLN.out] at hr2
      refine append_app (B := 0) (ok := fun k => ok k ∨ W.heap.size ≤ k) (l := l) (x := b) (v := .slice LA ll lc) (Nat.le_of_ble_eq_true rfl) rfl rfl d2 (blk_frozen hq2 2) (own_ne hr2 hq2 (by decide)) hr2 (Nat.zero_le _) (by rw [HLLN.out]; omega) (by rw [HN.out]; omega) HN.out (HCB2.out _ HF2.out) (fun k hk => .inr (Nat.le_trans (HFW.out _ HF2.out).size hk)) ?_
      intro u43 u44 u45 u46 u47 u48 u49 u50 u51 u52 u53 v1 w5 r5 hg5 ho5
      obtain ⟨b6, r6, k6, z6⟩ := app_after hq2 hr2 hg5 r5
      have HQ6 := Lib.hid b6
      have HV6 := Lib.hid r6
      have hown : ∀ i, some i = (Value.slice LA ll lc).ownBlock → ok i ∨ W.heap.size ≤ i := fun i e => hr2.1 i e.symm
      have HLT := Lib.hid H.out.lt
      have HS6 := Lib.hid (HS2.out.keep (k6 p HS2.out.lt.1 (Ne.symm HNEQ.out.1) (fun e => by rcases hown p e with h | h; exact (HOK.out p h).1 rfl; have := HLT.out; omega)) (k6 g HS2.out.lt.2.1 (Ne.symm HNEQ.out.2.1) (fun e => by rcases hown g e with h | h; exact (HOK.out g h).2.1 rfl; have := HLT.out; omega)) (k6 m HS2.out.lt.2.2 (Ne.symm HNEQ.out.2.2) (fun e => by rcases hown m e with h | h; exact (HOK.out m h).2.2.1 rfl; have := HLT.out; omega)) : SR (w5.setCell ⟨q, 2, none⟩ v1) p g cap m s2)
      have HK6 := Lib.hid (show Kp W (w5.setCell ⟨q, 2, none⟩ v1) (Own p g m q ok) from ⟨Nat.le_trans (HFW.out _ HF2.out).size z6, fun i hi hx => (k6 i (Nat.lt_of_lt_of_le hi (HFW.out _ HF2.out).size) (fun e => hx (.inr (.inr (.inr (.inl e))))) (fun e => by rcases hown i e with h | h; exact hx (.inr (.inr (.inr (.inr h)))); omega)).trans ((HFW.out _ HF2.out).block i hi (fun e => hx (.inl e)) (fun e => hx (.inr (.inl e))) (fun e => hx (.inr (.inr (.inl e))))), hg5.os.trans (HFW.out _ HF2.out).os, hg5.tape.trans (HFW.out _ HF2.out).tape, hg5.output.trans (HFW.out _ HF2.out).output⟩)
      clear hq2 d2 d3 hr2 b6 r6 k6 z6 r5 hg5 ho5 hown
      generalize w5.setCell ⟨q, 2, none⟩ v1 = w6 at HQ6 HV6 HS6 HK6 ⊢
      simp only [puts, Act.put, List.setIfInBounds_toArray, List.set_cons_zero, List.set_cons_succ]
      go_upto_region 8 with (fail)
      obtain ⟨e0, e1, e2, e3⟩ := cells4 HQ6.out
      have fz3 : w6.frozen? ⟨q, 3, none⟩ = false := blk_frozen HQ6.out 3
      have r0 : IntKind.i64.wrap ((t : Int) + (nd : Int)) = (t : Int) + (nd : Int) := IntWalk.i64_in _ (by omega)
      go_still_tail 10, (by kernel_rfl)
      still_call (HNE.out _)
      repeat still_step
      refine wpStill_nil ?_
      change wpList _ _ _ _ _ w6.drew
      have e3d : w6.drew.cell? ⟨q, 3, none⟩ = some (.int .i64 (t : Int)) := e3
      have fz3d : w6.drew.frozen? ⟨q, 3, none⟩ = false := fz3
      obtain ⟨k7, r7⟩ := log_put3 HQ6.out HV6.out ((t : Int) + (nd : Int)) (t + nd) (by omega)
      have HQ7 := Lib.hid k7
      have HV7 := Lib.hid r7
      have HS7 := Lib.hid ((HS6.out.keep (W' := w6.setCell ⟨q, 3, none⟩ (.int .i64 ((t : Int) + (nd : Int)))) (Below.heap_setCell _ _ _ p (Ne.symm HNEQ.out.1)) (Below.heap_setCell _ _ _ g (Ne.symm HNEQ.out.2.1)) (Below.heap_setCell _ _ _ m (Ne.symm HNEQ.out.2.2))).below (below_drew (Below.refl _ _)))
      have HK7 := Lib.hid (show Kp W (w6.setCell ⟨q, 3, none⟩ (.int .i64 ((t : Int) + (nd : Int)))).drew (Own p g m q ok) from HK6.out.trans ⟨by show w6.heap.size ≤ (w6.setCell _ _).heap.size; rw [World.size_setCell]; exact Nat.le_refl _, fun i hi hx => Below.heap_setCell _ _ _ i (fun e => hx (.inr (.inr (.inr (.inl e))))), rfl, rfl, rfl⟩)
      clear k7 r7 e0 e1 e2 e3
      go_wp2_with fail
      go_ret
      rw [HE2.out]
      exact ⟨rfl, HS7.out, ⟨v1, HQ7.out, HV7.out⟩, HK7.out⟩
    · have HR0 := Lib.hid hr0
      have HE2 := Lib.hid (HE.out.trans (by rw [if_neg hr0]))
      have hz : ¬ (r2 = 0) := hr0
      go_wp2_with fail
      go_ret
      rw [HE2.out]
      have hr2 := HR2.out _ HF2.out
      exact ⟨rfl, HS2.out, ⟨_, HQ2.out _ HF2.out, by rw [HLLN.out] at hr2; exact hr2⟩, Kp.of_fr (HFW.out _ HF2.out) (.inl rfl) (.inr (.inl rfl)) (.inr (.inr (.inl rfl)))⟩
end
end Go.Proofs.YtnobhjpobnmiaaaDoor.Wl
