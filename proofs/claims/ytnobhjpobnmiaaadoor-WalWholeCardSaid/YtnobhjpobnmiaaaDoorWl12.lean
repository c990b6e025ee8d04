/- A log in memory: the walk of Open on a disk that has power. -/
import Derived.Test.YtnobhjpobnmiaaaDoorWl11
import Derived.StillTailTactics
namespace Go.Proofs.YtnobhjpobnmiaaaDoor.Wl
open Go Go.RowKit Go.Maps Go.Proofs Go.Proofs.YtnobhjpobnmiaaaDoor.Sk Go.Proofs.YtnobhjpobnmiaaaDoorW.PrintWords Go.Proofs.YtnobhjpobnmiaaaDoorW.PrintLast Go.Proofs.YtnobhjpobnmiaaaDoorW.PrintMore
set_option linter.unusedVariables false
set_option linter.unusedSimpArgs false

section
variable {W W' w : World} {p g cap m : Nat} {s : D}
set_option maxHeartbeats 16000000 in
set_option maxRecDepth 100000 in
theorem open_up (h : SR W p g cap m s) (o : Ok s) (ha : s.acts ≤ 999999990) (hd : s.down = false) : Calls Tryd.prog 11 #[.pointer (some ⟨p, 0, none⟩)] W (OpenPost W p g cap m (openD s)) := by
  have hr := read_calls h o 0 16
  rw [read_first o hd] at hr
  obtain ⟨F, hF⟩ : ∃ F, s.b.take 16 = F := ⟨_, rfl⟩
  have hFl : F.length = 16 := by rw [← hF, List.length_take]; have := o.bl; have := o.n1; omega
  have hFr : ∀ u ∈ F, 0 ≤ u ∧ u ≤ 255 := fun u hu => o.br u (List.mem_of_mem_take (by rw [hF]; exact hu))
  rw [hF] at hr
  have HR := Lib.hid hr
  have H := Lib.hid h
  have HO := Lib.hid o
  have HFL := Lib.hid hFl
  have HFR := Lib.hid hFr
  obtain ⟨n, hn⟩ : ∃ n, s.b.length = n := ⟨_, rfl⟩
  have HN := Lib.hid hn
  have HSZ := Lib.hid (fun w (hw : Below W.heap.size W w) => (by have := size_calls (h.below hw); rw [hn] at this; exact this : Calls Tryd.prog 24 #[.pointer (some ⟨p, 0, none⟩)] w fun e w' => e = .returned (.int .i64 (n : Int)) ∧ w' = w))
  have hn2 : n ≤ 65536 := by rw [← hn]; have := o.bl; have := o.n2; omega
  have HSG := Lib.hid (show signOf s.b = if F = sign 1 then some 1 else if F ≠ sign 0 ∧ nz F then none else some 0 by unfold signOf; rw [hF])
  have HD := Lib.hid hd
  clear hr h o hF hFl hFr hn hd
  go_enter Tryd.func11, Tryd.ntmps11
  go_upto_region 2 with (go_at_call 22; refine HR.out.mono ?_; rintro e w1 ⟨A', c', rfl, hr1, hb⟩; have HR1 := Lib.hid hr1; have HB := Lib.hid hb; clear hr1 hb)
  obtain ⟨gf, rfl, hgf, -, hrow, hcf⟩ := Row.of_R HR1.out (by rw [HFL.out]; decide)
  have hfl : F.length = 16 := HFL.out
  rw [hfl]
  have hob : Obj.cells #[.pointer (some ⟨p, 0, none⟩), .int .i64 0, .slice none 0 0, .int .i64 0] 57 (0, 0) = Obj.cells #[.pointer (some ⟨p, 0, none⟩), .int .i64 ((0 : Nat) : Int), .slice none 0 0, .int .i64 0] 57 (0, 0) := rfl
  obtain ⟨q, hq⟩ : ∃ q, w1.heap.size = q := ⟨_, rfl⟩
  have hql : W.heap.size ≤ q := by rw [← hq]; exact HB.out.size
  have HQL := Lib.hid hql
  have hal := below_alloc (Below.refl w1.heap.size w1) (.cells #[.pointer (some ⟨p, 0, none⟩), .int .i64 0, .slice none 0 0, .int .i64 0] 57)
  have hblk := blk_new w1 (.cells #[.pointer (some ⟨p, 0, none⟩), .int .i64 0, .slice none 0 0, .int .i64 0] 57)
  rw [hq] at hblk
  go_upto_block 0 with (fail)
  have HB2 := Lib.hid (below_step HB.out hal)
  have HQ2 := Lib.hid hblk
  have HROW := Lib.hid (row_below hrow hal)
  have HCF := Lib.hid hcf
  clear hq hal hblk hrow hql hob hgf hcf hfl
  generalize w1.alloc (.cells #[.pointer (some ⟨p, 0, none⟩), .int .i64 0, .slice none 0 0, .int .i64 0] 57) = w2 at HB2 HQ2 HROW ⊢
  have HEQ := Lib.hid (fun w3 gh a (hw : Below w2.heap.size w2 w3) (hr : Row w3 gh 16 (sign a)) (ha : a = 0 ∨ a = 1) => (by
    have := equal_calls (c := c') (row_below HROW.out hw) 0 (by rw [HFL.out]; decide) HFR.out hr rfl (by rcases ha with rfl | rfl <;> decide)
    rw [List.drop_zero, List.take_of_length_le (by rw [HFL.out]; decide)] at this
    exact this : Calls Tryd.prog 25 #[.slice (some ⟨gf, 0, none⟩) 16 c', .slice (some ⟨gh, 0, none⟩) 16 16] w3 fun e w' => e = .returned (.bool (decide (F = sign a))) ∧ w' = w3))
  have HS1 := Lib.hid (fun w3 => (show Calls Tryd.prog 26 #[.int .i64 1] w3 (fun e w' => ∃ g, e = .returned (.slice (some ⟨g, 0, none⟩) 16 16) ∧ w3.heap.size ≤ g ∧ Row w' g 16 (sign 1) ∧ Below w3.heap.size w3 w') from sign_calls 1 (by decide) w3))
  have HS0 := Lib.hid (fun w3 => (show Calls Tryd.prog 26 #[.int .i64 0] w3 (fun e w' => ∃ g, e = .returned (.slice (some ⟨g, 0, none⟩) 16 16) ∧ w3.heap.size ≤ g ∧ Row w' g 16 (sign 0) ∧ Below w3.heap.size w3 w') from sign_calls 0 (by decide) w3))
  obtain ⟨b1, hb1⟩ : ∃ b1, decide (F = sign 1) = b1 := ⟨_, rfl⟩
  obtain ⟨b0, hb0⟩ : ∃ b0, decide (F = sign 0) = b0 := ⟨_, rfl⟩
  have HB1 := Lib.hid hb1
  have HB0 := Lib.hid hb0
  have HTR := Lib.hid (fun w3 (hw : Below w2.heap.size w2 w3) => (by
    have := trim_calls (row_below HROW.out hw) 0 16 c' (by rw [HFL.out]) (by obtain ⟨ext, _, e⟩ := HROW.out; rw [← e, HFL.out]; omega) HCF.out
    rw [List.drop_zero] at this
    exact this : Calls Tryd.prog 27 #[.slice (some ⟨gf, 0, none⟩) 16 c', .string ⟨#[0]⟩] w3 fun e w' => (∃ A k c', (0 < k ↔ nz F) ∧ e = .returned (.slice A k c')) ∧ Below w3.heap.size w3 w'))
  clear hb1 hb0
  by_cases h48 : n < 48
  · have h48z : (n : Int) < 48 := by omega
    go_wp2_with (go_at_call 24; refine (HSZ.out _ HB2.out).mono ?_; rintro e w' ⟨rfl, rfl⟩)
    go_ret2
    rw [openD_small HD.out (by rw [HN.out]; exact h48)]
    exact ⟨H.out.below HB2.out, Fr.of_below HB2.out, rfl⟩
  · have h48z : ¬ ((n : Int) < 48) := by omega
    have HN48 := Lib.hid (show ¬ s.b.length < 48 by rw [HN.out]; exact h48)
    go_cut [18] from 18 to 43 (fun v18 wc => ∃ a : Nat, a ≤ 1 ∧ Hid (signOf s.b = some a) ∧ Hid (wc.heap[q]? = some (.cells #[.pointer (some ⟨p, 0, none⟩), .int .i64 (a : Int), .slice none 0 0, .int .i64 ((0 : Nat) : Int)] 57 (0, 0))) ∧ Hid (Below W.heap.size W wc))
    case first =>
      cases b1 with
      | true =>
        have hsg := HSG.out.trans (if_pos (of_decide_eq_true HB1.out))
        obtain ⟨_, d1, _, _⟩ := cells4 HQ2.out
        go_wp2_with (first
          | (go_at_call 24; refine (HSZ.out _ HB2.out).mono ?_; rintro e w' ⟨rfl, rfl⟩)
          | (go_at_call 26; refine (HS1.out _).mono ?_; rintro e w3 ⟨gs, rfl, _, hrs, hbs⟩; have HRS := Lib.hid hrs; have HBS := Lib.hid hbs; have d13 := cell_keep0 hbs d1; have fz13 : w3.frozen? ⟨q, 1, none⟩ = false := blk_frozen (blk_below HQ2.out hbs) 1; clear hrs hbs)
          | (go_at_call 25; refine (HEQ.out _ _ 1 HBS.out HRS.out (.inr rfl)).mono ?_; rw [HB1.out]; rintro e w4 ⟨rfl, rfl⟩))
        go_meet
        case rel =>
          have hb3 := blk_below HQ2.out HBS.out
          have e1 := blk_put hb3 1 (.int .i64 1) rfl
          exact ⟨1, Nat.le_refl _, Lib.hid hsg, Lib.hid e1, Lib.hid ((below_step HB2.out HBS.out).trans (put_below (W := W) _ (g := q) (j := 1) (.int .i64 1) HQL.out))⟩
      | false =>
        have hsg := HSG.out.trans (if_neg (of_decide_eq_false HB1.out))
        cases b0 with
        | true =>
          have hsg2 := hsg.trans (if_neg (fun c => c.1 (of_decide_eq_true HB0.out)))
          have HSG2 := Lib.hid hsg2
          clear hsg hsg2
          go_wp2_with (first
          | (go_at_call 24; refine (HSZ.out _ HB2.out).mono ?_; rintro e w' ⟨rfl, rfl⟩)
          | (go_at_call 26; (with_reducible refine (HS1.out _).mono ?_); rintro e w3 ⟨gs, rfl, _, hrs, hbs⟩; have HRS := Lib.hid hrs; have HBS := Lib.hid hbs; clear hrs hbs)
          | (go_at_call 25; (with_reducible refine (HEQ.out _ _ 1 HBS.out HRS.out (.inr rfl)).mono ?_); rw [HB1.out]; rintro e w4 ⟨rfl, rfl⟩)
          | (go_at_call 26; (with_reducible refine (HS0.out _).mono ?_); rintro e w5 ⟨gs0, rfl, _, hrs, hbs⟩; have HRS0 := Lib.hid hrs; have HBS0 := Lib.hid (below_step HBS.out hbs); clear hrs hbs)
          | (go_at_call 25; (with_reducible refine (HEQ.out _ _ 0 HBS0.out HRS0.out (.inl rfl)).mono ?_); rw [HB0.out]; rintro e w6 ⟨rfl, rfl⟩))
          go_meet
          case rel => exact ⟨0, Nat.zero_le _, HSG2, Lib.hid (blk_below HQ2.out HBS0.out), Lib.hid (below_step HB2.out HBS0.out)⟩
        | false =>
          by_cases hnz : nz F
          · have HSG2 := Lib.hid (hsg.trans (if_pos ⟨of_decide_eq_false HB0.out, hnz⟩))
            have HNZ := Lib.hid hnz
            clear hsg hnz
            go_wp2_with (first
          | (go_at_call 24; refine (HSZ.out _ HB2.out).mono ?_; rintro e w' ⟨rfl, rfl⟩)
          | (go_at_call 26; (with_reducible refine (HS1.out _).mono ?_); rintro e w3 ⟨gs, rfl, _, hrs, hbs⟩; have HRS := Lib.hid hrs; have HBS := Lib.hid hbs; clear hrs hbs)
          | (go_at_call 25; (with_reducible refine (HEQ.out _ _ 1 HBS.out HRS.out (.inr rfl)).mono ?_); rw [HB1.out]; rintro e w4 ⟨rfl, rfl⟩)
          | (go_at_call 26; (with_reducible refine (HS0.out _).mono ?_); rintro e w5 ⟨gs0, rfl, _, hrs, hbs⟩; have HRS0 := Lib.hid hrs; have HBS0 := Lib.hid (below_step HBS.out hbs); clear hrs hbs)
          | (go_at_call 25; (with_reducible refine (HEQ.out _ _ 0 HBS0.out HRS0.out (.inl rfl)).mono ?_); rw [HB0.out]; rintro e w6 ⟨rfl, rfl⟩)
          | (go_at_call 27; (with_reducible refine (HTR.out _ HBS0.out).mono ?_); rintro e w7 ⟨⟨A, k, c2, hk, rfl⟩, hb7⟩; have hkz : (k : Int) > 0 := (by have := hk.2 HNZ.out; omega); have HB7 := Lib.hid (below_step HBS0.out hb7); clear hk hb7))
            go_ret2
            rw [openD_bad HD.out HN48.out HSG2.out]
            exact ⟨H.out.below (below_step HB2.out HB7.out), Fr.of_below (below_step HB2.out HB7.out), rfl⟩
          · have HSG2 := Lib.hid (hsg.trans (if_neg (fun c => hnz c.2)))
            have HNZ := Lib.hid hnz
            clear hsg hnz
            go_wp2_with (first
          | (go_at_call 24; refine (HSZ.out _ HB2.out).mono ?_; rintro e w' ⟨rfl, rfl⟩)
          | (go_at_call 26; (with_reducible refine (HS1.out _).mono ?_); rintro e w3 ⟨gs, rfl, _, hrs, hbs⟩; have HRS := Lib.hid hrs; have HBS := Lib.hid hbs; clear hrs hbs)
          | (go_at_call 25; (with_reducible refine (HEQ.out _ _ 1 HBS.out HRS.out (.inr rfl)).mono ?_); rw [HB1.out]; rintro e w4 ⟨rfl, rfl⟩)
          | (go_at_call 26; (with_reducible refine (HS0.out _).mono ?_); rintro e w5 ⟨gs0, rfl, _, hrs, hbs⟩; have HRS0 := Lib.hid hrs; have HBS0 := Lib.hid (below_step HBS.out hbs); clear hrs hbs)
          | (go_at_call 25; (with_reducible refine (HEQ.out _ _ 0 HBS0.out HRS0.out (.inl rfl)).mono ?_); rw [HB0.out]; rintro e w6 ⟨rfl, rfl⟩)
          | (go_at_call 27; (with_reducible refine (HTR.out _ HBS0.out).mono ?_); rintro e w7 ⟨⟨A, k, c2, hk, rfl⟩, hb7⟩; have hkz : ¬ ((k : Int) > 0) := (fun hc => HNZ.out (hk.1 (by omega))); have HB7 := Lib.hid (below_step HBS0.out hb7); clear hk hb7))
            go_meet
            case rel => exact ⟨0, Nat.zero_le _, HSG2, Lib.hid (blk_below HQ2.out HB7.out), Lib.hid (below_step HB2.out HB7.out)⟩
    case rest =>
      obtain ⟨a, ha1, HSA, HQA, HBA⟩ := hcut
      have HLA := Lib.hid (ar_len ha1 (show 48 ≤ s.b.length by have := HN48.out; omega))
      obtain ⟨hf, hhf⟩ : ∃ hf, half s.b.length = hf := ⟨_, rfl⟩
      have hfp : 1 ≤ hf ∧ hf ≤ 2048 := ⟨by rw [← hhf, HN.out]; unfold half; omega, by rw [← hhf]; exact half_le (by rw [HN.out]; exact hn2)⟩
      have HRA := Lib.hid (fun w' (hw : Below W.heap.size W w') => (by
        have := read_calls (H.out.below hw) HO.out (((1 + a * half s.b.length + 0) * 16 : Nat) : Int) ((half s.b.length : Int) * 16)
        rw [read_area HO.out HD.out (by have := HN48.out; omega) ha1] at this
        rw [hhf] at this
        exact this : Calls Tryd.prog 22 #[.pointer (some ⟨p, 0, none⟩), .int .i64 (((1 + a * hf + 0) * 16 : Nat) : Int), .int .i64 ((hf : Int) * 16)] w' fun e w2 => ∃ A' c', e = .returned (.tuple #[.slice A' (ar s.b a).length c', .int .i64 0]) ∧ Kd.R (Kd.int .u8) 5 w2 w'.heap.size (fun _ => True) (.slice A' (ar s.b a).length c') (ar s.b a) ∧ Below w'.heap.size w' w2))
      have HWH := Lib.hid (fun w' (hw : Below W.heap.size W w') => (by have := where_calls (H.out.below hw) HO.out a 0 ha1 (by omega); rw [hhf] at this; exact this : Calls Tryd.prog 28 #[.pointer (some ⟨p, 0, none⟩), .int .i64 (a : Int), .int .i64 0] w' fun e w2 => e = .returned (.int .i64 (((1 + a * hf + 0) * 16 : Nat) : Int)) ∧ w2 = w'))
      have HHF := Lib.hid (fun w' (hw : Below W.heap.size W w') => (by have := half_calls (H.out.below hw) HO.out; rw [hhf] at this; exact this : Calls Tryd.prog 29 #[.pointer (some ⟨p, 0, none⟩)] w' fun e w2 => e = .returned (.int .i64 (hf : Int)) ∧ w2 = w'))
      have HHH := Lib.hid hhf
      rw [hhf] at HLA
      clear hhf HB2 HQ2 HROW HEQ HS1 HS0 HB1 HB0 HTR HSG HSZ HR HR1 HB h48z h48
      obtain ⟨_, d1, _, _⟩ := cells4 HQA.out
      have r1 : IntKind.i64.wrap ((hf : Int) * 16) = (hf : Int) * 16 := IntWalk.i64_in _ (by omega)
      obtain ⟨L, hL⟩ : ∃ L, (ar s.b a).length = L := ⟨_, rfl⟩
      have HLL := Lib.hid hL
      rw [hL] at HRA HLA
      have hL1 : 16 ≤ L ∧ L ≤ 32768 := by have := HLA.out; omega
      clear hL
      go_upto_region 12 with (first
        | (go_at_call 28; refine (HWH.out _ HBA.out).mono ?_; rintro e w' ⟨rfl, rfl⟩)
        | (go_at_call 29; refine (HHF.out _ HBA.out).mono ?_; rintro e w' ⟨rfl, rfl⟩)
        | (go_at_call 22; refine (HRA.out _ HBA.out).mono ?_; rintro e w3 ⟨A', c3, rfl, hr3, hb3⟩; have HR3 := Lib.hid hr3; have HB3 := Lib.hid hb3; clear hr3 hb3))
      obtain ⟨gb, rfl, hgb, -, hrow3, hc3⟩ := Row.of_R HR3.out (by rw [HLL.out]; omega)
      have HROW3 := Lib.hid hrow3
      have HQ3 := Lib.hid (blk_below HQA.out HB3.out)
      have HB3A := Lib.hid (below_step HBA.out HB3.out)
      have HGB := Lib.hid (show w'.heap.size ≤ gb from hgb)
      have har : ∀ u ∈ ar s.b a, 0 ≤ u ∧ u ≤ 255 := fun u hu => HO.out.br u (List.mem_of_mem_drop (List.mem_of_mem_take hu))
      obtain ⟨l, t, hR⟩ : ∃ l t, scan 5000 [] 0 (ar s.b a) = (l, t) := ⟨_, _, rfl⟩
      have HSC := Lib.hid (by
        have := scan_calls (q := q) (p := p) (area := a) HQ3.out HROW3.out har (by rw [HLL.out]; omega) hc3
        rw [HLL.out, hR] at this
        exact this : Calls Tryd.prog 30 #[.pointer (some ⟨q, 0, none⟩), .slice (some ⟨gb, 0, none⟩) L c3] w3 fun e w' => e = .returned (.tuple #[]) ∧ ∃ v, w'.heap[q]? = some (.cells #[.pointer (some ⟨p, 0, none⟩), .int .i64 (a : Int), v, .int .i64 (t : Int)] 57 (0, 0)) ∧ RB w' w3.heap.size (fun _ => True) v l ∧ Fr w3 w' q q q)
      have htL := scan_t (ar s.b a) (by rw [HLL.out]; omega)
      rw [hR, HLL.out] at htL
      have htL : t * 16 ≤ L := htL
      have HRR := Lib.hid hR
      have HLC := Lib.hid (show L ≤ c3 by obtain ⟨ext, _, e⟩ := HROW3.out; rw [← e, HLL.out]; omega)
      have HC3 := Lib.hid hc3
      clear hrow3 hgb har hR hc3
      have HBASE := Lib.hid (show base s.b.length a + t * 16 = (1 + a * half s.b.length + t) * 16 by unfold base; rw [Nat.add_mul (1 + a * half s.b.length) t 16])
      go_upto_region 13 with (go_at_call 30; (with_reducible refine HSC.out.mono ?_); rintro e w4 ⟨rfl, v, hq4, hv4, hf4⟩; have HQ4 := Lib.hid hq4; have HV4 := Lib.hid hv4; have HF4 := Lib.hid hf4; clear hq4 hv4 hf4)
      have hqn : q ≠ p ∧ q ≠ g ∧ q ≠ m := by have := H.out.lt; have := HQL.out; omega
      have HQN := Lib.hid hqn
      have HB4 := Lib.hid (HB3A.out.trans (HF4.out.to_below HQL.out HQL.out HQL.out HB3A.out.size))
      have HV4' := Lib.hid (Kd.R_mono (Kd.R_lower (Kd.R_bound HV4.out) (Nat.zero_le _)) (fun k hk => Nat.le_trans HB3A.out.size hk.2.1) : RB w4 0 (fun k => W.heap.size ≤ k) v l)
      have HROW4 := Lib.hid (HROW3.out.keep (HF4.out.block gb HROW3.out.lt (by have := blk_ne HROW3.out.choose_spec.1 HQ3.out (by decide); exact this) (by have := blk_ne HROW3.out.choose_spec.1 HQ3.out (by decide); exact this) (by have := blk_ne HROW3.out.choose_spec.1 HQ3.out (by decide); exact this)))
      obtain ⟨_, _, _, d3⟩ := cells4 HQ4.out
      have s0 : 0 ≤ (t : Int) * 16 := by omega
      have s1 : (t : Int) * 16 ≤ (L : Int) := by omega
      have s2 : (L : Int) ≤ (c3 : Int) := by have := HLC.out; omega
      have s3 : ((t : Int) * 16).toNat = t * 16 := by omega
      have s4 : (t : Int) * 16 ≤ (c3 : Int) := by omega
      have s5 : IntKind.i64.wrap ((t : Int) * 16) = (t : Int) * 16 := IntWalk.i64_in _ (by omega)
      obtain ⟨N, hN⟩ : ∃ N, L - t * 16 = N := ⟨_, rfl⟩
      have HNN := Lib.hid hN
      have hNb : N ≤ 32768 := by omega
      have HFIN := Lib.hid (fun (h : ¬ nz ((ar s.b a).drop (t * 16))) => openD_still HD.out HN48.out HSA.out HRR.out h)
      by_cases hcn : c3 = t * 16
      · have HN0 := Lib.hid (show N = 0 by have := HLC.out; omega)
        have HTN := Lib.hid (fun A c w => (by rw [HN0.out]; exact trim_nil A c w : Calls Tryd.prog 27 #[.slice A N c, .string ⟨#[0]⟩] w fun e w' => (∃ A k c', k = 0 ∧ e = .returned (.slice A k c')) ∧ Below w.heap.size w w'))
        have HNZ := Lib.hid (show ¬ nz ((ar s.b a).drop (t * 16)) by rintro ⟨y, hy, _⟩; rw [List.drop_of_length_le (by rw [HLL.out]; have := HN0.out; omega)] at hy; cases hy)
        go_wp2_with (go_at_call 27; (with_reducible refine (HTN.out _ _ _).mono ?_); rintro e w5 ⟨⟨A, k, c2, rfl, rfl⟩, hb5⟩; have HB5 := Lib.hid hb5; clear hb5)
        go_ret2
        rw [HFIN.out HNZ.out]
        have hb := below_step HB4.out HB5.out
        exact ⟨H.out.below hb, Fr.of_below hb, ⟨q, v, rfl, HQL.out, blk_below HQ4.out HB5.out, Kd.R_below HV4'.out HB5.out⟩⟩
      · have HTR := Lib.hid (by
          have := trim_calls HROW4.out (t * 16) N (c3 - t * 16) (by rw [HLL.out]; omega) (by have := HLC.out; omega) (by have := HC3.out; omega)
          exact this : Calls Tryd.prog 27 #[.slice (some ⟨gb, t * 16, none⟩) N (c3 - t * 16), .string ⟨#[0]⟩] w4 fun e w' => (∃ A k c', (0 < k ↔ nz ((ar s.b a).drop (t * 16))) ∧ e = .returned (.slice A k c')) ∧ Below w4.heap.size w4 w')
        by_cases hnz : nz ((ar s.b a).drop (t * 16))
        · have HNZ := Lib.hid hnz
          clear hnz
          go_upto_region 15 with (go_at_call 27; (with_reducible refine HTR.out.mono ?_); rintro e w5 ⟨⟨A, k, c2, hk, rfl⟩, hb5⟩; have hkz : (k : Int) > 0 := (by have := hk.2 HNZ.out; omega); have HB5 := Lib.hid hb5; clear hk hb5)
          have HBW5 := Lib.hid (below_step HB4.out HB5.out)
          have HQ5 := Lib.hid (blk_below HQ4.out HB5.out)
          refine open_clean (s := s) (area := a) (t := t) (N := N) (v := v) (Nat.le_of_ble_eq_true rfl) rfl rfl rfl (H.out.below HBW5.out) HO.out ha HQ5.out ha1 (by omega) (by omega) ?_
          intro u72 u73 u74 u75 u76 u77 u78 u79 u80 u81 u82 u83 u84 u85 u86 u87 u88 u89 u90 w6 hs6 hf6
          have HS6 := Lib.hid hs6
          have HF6 := Lib.hid hf6
          have HQ6 := Lib.hid ((HF6.out.block q (blk_lt HQ5.out) HQN.out.1 HQN.out.2.1 HQN.out.2.2).trans HQ5.out)
          have HV6 := Lib.hid (Kd.R_step (Kd.R_below HV4'.out HB5.out) (fun k hk hlt => HF6.out.block k hlt (by have := H.out.lt; omega) (by have := H.out.lt; omega) (by have := H.out.lt; omega)))
          have HFW := Lib.hid ((Fr.of_below (p := p) (g := g) (m := m) HBW5.out).trans HF6.out)
          have HOC := Lib.hid (openD_clean HD.out HN48.out HSA.out HRR.out HNZ.out)
          rw [HBASE.out, HLL.out, HNN.out] at HOC
          obtain ⟨Y, hY⟩ : ∃ Y, cleanD s ((1 + a * half s.b.length + t) * 16) N = Y := ⟨_, rfl⟩
          rw [hY] at HS6 HOC ⊢
          clear hs6 hf6 hY
          obtain ⟨s7, r7⟩ := Y
          simp only [puts, Act.put, List.setIfInBounds_toArray, List.set_cons_zero, List.set_cons_succ]
          by_cases hr7 : r7 = 0
          · subst hr7
            go_wp2_with fail
            go_ret2
            rw [HOC.out, if_pos trivial]
            exact ⟨HS6.out, HFW.out, ⟨q, v, rfl, HQL.out, HQ6.out, HV6.out⟩⟩
          · have HR7 := Lib.hid hr7
            go_wp2_with fail
            go_ret2
            rw [HOC.out, if_neg HR7.out]
            exact ⟨HS6.out, HFW.out, rfl⟩
        · have HNZ := Lib.hid hnz
          clear hnz
          go_wp2_with (go_at_call 27; (with_reducible refine HTR.out.mono ?_); rintro e w5 ⟨⟨A, k, c2, hk, rfl⟩, hb5⟩; have hkz : ¬ ((k : Int) > 0) := (fun hc => HNZ.out (hk.1 (by omega))); have HB5 := Lib.hid hb5; clear hk hb5)
          go_ret2
          rw [HFIN.out HNZ.out]
          have hb := below_step HB4.out HB5.out
          exact ⟨H.out.below hb, Fr.of_below hb, ⟨q, v, rfl, HQL.out, blk_below HQ4.out HB5.out, Kd.R_below HV4'.out HB5.out⟩⟩
theorem open_calls (h : SR W p g cap m s) (o : Ok s) (ha : s.acts ≤ 999999990) : Calls Tryd.prog 11 #[.pointer (some ⟨p, 0, none⟩)] W (OpenPost W p g cap m (openD s)) := by
  cases hd : s.down with
  | true => exact open_down h o hd
  | false => exact open_up h o ha hd
end
end Go.Proofs.YtnobhjpobnmiaaaDoor.Wl
