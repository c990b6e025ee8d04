/- A disk and its log: the walk of the live question. -/
import Derived.Test.YtnobhjpobnmiaaaDoorWl17
import Derived.Deep.AppendLies
import Derived.Lib.SlBytesConst
namespace Go.Proofs.YtnobhjpobnmiaaaDoor.Wl
open Go Go.RowKit Go.Maps Go.Proofs Go.Proofs.YtnobhjpobnmiaaaDoor.Sk Go.Proofs.YtnobhjpobnmiaaaDoorW.PrintWords Go.Proofs.YtnobhjpobnmiaaaDoorW.PrintLast Go.Proofs.YtnobhjpobnmiaaaDoorW.PrintMore
set_option linter.unusedVariables false
set_option linter.unusedSimpArgs false

section
variable {B : Nat} {W W' w : World} {p g cap m q : Nat} {s : D} {G : LS} {v : Value} {ok : Nat → Prop}
theorem strRun {A : Option Addr} {n c : Nat} {x : By} (h : CB w A n x) : (convert 22 9 (.slice A n c)).run Tryd.prog w = .ok (.string (strOfNums x)) w := Kd.C_string Tryd.underlying22 Tryd.underlying5 Tryd.underlying9 h
theorem conv_id (w : World) (C : Array Value) (n c : Nat) : (convert 22 22 (.slice (some ⟨w.heap.size, 0, none⟩) n c)).run Tryd.prog (w.alloc (.cells C 5)) = .ok (.slice (some ⟨w.heap.size, 0, none⟩) n c) (w.alloc (.cells C 5 (C.size, C.size + 1))) :=
  Lib.run_convert_bytes_const w 22 5 C n c Tryd.underlying22 Tryd.underlying5
/-- a constant's bytes, read -/
theorem const_arg (w : World) (xs : By) (fz : Nat × Nat) (hl : xs.length ≤ 1000000) : CB (w.alloc (.cells (enc xs).toArray 5 fz)) (some ⟨w.heap.size, 0, none⟩) xs.length xs := by
  refine ⟨rfl, by omega, fun hp => ⟨_, rfl, fun j q hj => ?_⟩⟩
  refine ⟨[.int .u8 q], rfl, rfl, fun i u hu => ?_⟩
  have hi : i = 0 := by
    have := (List.getElem?_eq_some_iff.1 hu).1
    simpa using this
  subst hi
  cases hu
  have hn : (w.alloc (.cells (enc xs).toArray 5 fz)).heap[w.heap.size]? = some (.cells (enc xs).toArray 5 fz) := by
    show (w.heap.push _)[w.heap.size]? = _
    simp
  rw [Sk.add_at]
  show (w.alloc _).cell? ⟨w.heap.size, 0 + (j * 1 + 0), none⟩ = _
  unfold World.cell?
  rw [hn]
  have e : 0 + (j * 1 + 0) = j := by omega
  simp [e, enc, hj]
theorem zarg (w : World) (n : Nat) (hn : n ≤ 1000000) : CB (w.alloc (.cells (enc (zer n)).toArray 5)) (some ⟨w.heap.size, 0, none⟩) (zer n).length (zer n) := by
  have h : Row (w.alloc (.cells (enc (zer n)).toArray 5)) w.heap.size (zer n).length (zer n) := ⟨[], by rw [List.append_nil]; exact blk_new _ _, rfl⟩
  have := h.CB (by rw [zer_len]; omega)
  exact this
theorem nil_arg (w : World) : CB w none ([] : By).length [] := ⟨rfl, by decide, fun h => absurd h (Nat.lt_irrefl 0)⟩
theorem LB.kp {X : Nat → Prop} (h : LB W q p G v ok) (hk : Kp W W' X) (hq : ¬ X q) (hx : ∀ k, ok k → k < W.heap.size → ¬ X k) : LB W' q p G v ok := ⟨(hk.block q (blk_lt h.blk) hq).trans h.blk, Kd.R_step h.rows (fun k h1 h2 => hk.block k h2 (hx k h1 h2))⟩
/-- rows that are not none lie at a block of their own -/
theorem rows_form {base : Nat} {l : List By} (h : RB W base ok v l) (hl : 0 < l.length) : ∃ gr c, v = .slice (some ⟨gr, 0, none⟩) l.length c ∧ base ≤ gr ∧ gr < W.heap.size := by
  obtain ⟨_, inner, ho, _⟩ := h
  exact ho.form hl
set_option maxHeartbeats 8000000 in
set_option maxRecDepth 100000 in
theorem head_walk (W : World) : Calls Tryd.prog 9 #[] W fun e w' => e = .returned (.bool true) ∧ Below W.heap.size W w' := by
  have HBG := Lib.hid (begin_calls 13 (by decide) (by decide) W)
  have m17 : ∀ w : World, (Instr.makeSlice 22 (.int .i64 17) (.int .i64 17)).run Tryd.prog w = .ok (.slice (some ⟨w.heap.size, 0, none⟩) 17 17) (w.alloc (.cells (enc (List.replicate 17 0)).toArray 5)) := fun w => make_run 17 (by decide) w
  have m40 : ∀ w : World, (Instr.makeSlice 22 (.int .i64 40) (.int .i64 40)).run Tryd.prog w = .ok (.slice (some ⟨w.heap.size, 0, none⟩) 40 40) (w.alloc (.cells (enc (List.replicate 40 0)).toArray 5)) := fun w => make_run 40 (by decide) w
  go_enter Tryd.func9, Tryd.ntmps9
  go_upto_region 4 with (go_at_call 15; refine HBG.out.mono ?_; rintro e w1 ⟨p, g, cap, m, q, v, ok, rfl, hy, hb⟩; have HY := Lib.hid hy; have HB := Lib.hid hb; clear hy hb)
  have HA1 := Lib.hid (show Calls Tryd.prog 13 #[.pointer (some ⟨q, 0, none⟩), .slice (some ⟨w1.heap.size, 0, none⟩) 17 17] (w1.alloc (.cells (enc (List.replicate 17 0)).toArray 5)) (fun e w' => e = .returned (.int .i64 0) ∧ (∃ v' ok', SYS W.heap.size w' p g cap m q h1 g1 v' ok') ∧ Below W.heap.size W w') from by
    have hb := below_alloc (Below.refl w1.heap.size w1) (.cells (enc (zer 17)).toArray 5)
    have hy := HY.out.below hb
    refine (hy.append (c := 17) (Nat.zero_le _) (by decide) (by decide) (by decide) (zer 17) (zarg w1 17 (by decide)) (zer_range _) (by rw [zer_len]; decide) (fun ad e _ => by cases e; have := HY.out.sr.lt; exact ⟨by show w1.heap.size ≠ _; omega, by show w1.heap.size ≠ _; omega, by show w1.heap.size ≠ _; omega⟩)).mono ?_
    rintro e w' ⟨rfl, ⟨v', h'⟩, hk⟩
    exact ⟨congrArg (fun z => Ending.returned (Value.int .i64 z)) a1.1, ⟨v', _, by have h2 := h'; have e6 : (appendD (made (zer (13 * 16))) ⟨0, [], 0⟩ (zer 17)).2.2 = g1 := a1.2.2.2.2.2; rw [e6] at h2; exact h2⟩, (below_step HB.out hb).trans (hk.to_below hy.own hy.le)⟩)
  go_upto_region 5 with (go_at_call 13; refine HA1.out.mono ?_; rintro e w2 ⟨rfl, ⟨v2, ok2, hy⟩, hb⟩; have HY2 := Lib.hid hy; have HB2 := Lib.hid hb; clear hy hb)
  have HA2 := Lib.hid (show Calls Tryd.prog 13 #[.pointer (some ⟨q, 0, none⟩), .slice none 0 0] w2 (fun e w' => e = .returned (.int .i64 0) ∧ (∃ v' ok', SYS W.heap.size w' p g cap m q h2 g2 v' ok') ∧ Below W.heap.size W w') from by
    refine (HY2.out.append (c := 0) (by have := a1.2.2.2.2.1; omega) (by decide) (by decide) (by decide) [] (nil_arg w2) (by simp) (by decide) (fun ad e _ => by cases e)).mono ?_
    rintro e w' ⟨rfl, ⟨v', h'⟩, hk⟩
    exact ⟨congrArg (fun z => Ending.returned (Value.int .i64 z)) a2.1, ⟨v', _, by rw [a2.2.2.2.2.2] at h'; exact h'⟩, HB2.out.trans (hk.to_below HY2.out.own HY2.out.le)⟩)
  go_upto_region 6 with (go_at_call 13; refine HA2.out.mono ?_; rintro e w3 ⟨rfl, ⟨v3, ok3, hy⟩, hb⟩; have HY3 := Lib.hid hy; have HB3 := Lib.hid hb; clear hy hb)
  have HA3 := Lib.hid (show Calls Tryd.prog 13 #[.pointer (some ⟨q, 0, none⟩), .slice (some ⟨w3.heap.size, 0, none⟩) 40 40] (w3.alloc (.cells (enc (List.replicate 40 0)).toArray 5)) (fun e w' => e = .returned (.int .i64 51) ∧ (∃ v' ok', SYS W.heap.size w' p g cap m q h2 g2 v' ok') ∧ Below W.heap.size W w') from by
    have hb := below_alloc (Below.refl w3.heap.size w3) (.cells (enc (zer 40)).toArray 5)
    have hy := HY3.out.below hb
    refine (hy.append (c := 40) (by have := a2.2.2.2.2.1; omega) (by decide) (by decide) (by decide) (zer 40) (zarg w3 40 (by decide)) (zer_range _) (by rw [zer_len]; decide) (fun ad e _ => by cases e; have := HY3.out.sr.lt; exact ⟨by show w3.heap.size ≠ _; omega, by show w3.heap.size ≠ _; omega, by show w3.heap.size ≠ _; omega⟩)).mono ?_
    rintro e w' ⟨rfl, ⟨v', h'⟩, hk⟩
    rw [a3] at h' ⊢
    exact ⟨rfl, ⟨v', _, h'⟩, (below_step HB3.out hb).trans (hk.to_below hy.own hy.le)⟩)
  go_upto_region 7 with (go_at_call 13; refine HA3.out.mono ?_; rintro e w4 ⟨rfl, ⟨v4, ok4, hy⟩, hb⟩; have HY4 := Lib.hid hy; have HB4 := Lib.hid hb; clear hy hb)
  have HOP := Lib.hid (open_still (B := W.heap.size) HY4.out.sr HY4.out.o (by have := a2.2.2.2.2.1; omega) ⟨HY4.out.hB.1, HY4.out.hB.2.1, HY4.out.hB.2.2.1⟩ a4)
  go_upto_region 10 with (go_at_call 11; refine HOP.out.mono ?_; rintro e w5 ⟨q2, v5, rfl, hq2, hy, hf⟩; have HQ2 := Lib.hid hq2; have HY5 := Lib.hid hy; have HF5 := Lib.hid hf; clear hq2 hy hf)
  have HL4 := Lib.hid (show LB w4 q p g2 v4 (fun k => ok4 k ∧ k < w4.heap.size) from ⟨HY4.out.lb.blk, Kd.R_mono (Kd.R_bound HY4.out.lb.rows) (fun k hk => ⟨hk.1, hk.2.2.1⟩)⟩)
  have HN4 := Lib.hid (sr_ne HY4.out.sr HY4.out.lb.blk (by decide) (by decide))
  have HL5 := Lib.hid (HL4.out.fr HY4.out.sr HF5.out (fun k hk => ⟨(HY4.out.hok k hk.1).2.1, (HY4.out.hok k hk.1).2.2.1, (HY4.out.hok k hk.1).2.2.2.1⟩))
  have HB5 := Lib.hid (HB4.out.trans (HF5.out.to_below HY4.out.hB.1 HY4.out.hB.2.1 HY4.out.hB.2.2.1 HY4.out.le))
  have HQLT := Lib.hid (blk_lt HL4.out.blk)
  have HST := Lib.hid (show Calls Tryd.prog 16 #[.pointer (some ⟨q2, 0, none⟩), .slice (some ⟨w5.heap.size, 0, none⟩) 1 1] (w5.alloc (.cells #[.int .u8 122] 5 (1, 2))) (fun e w' => e = .returned (.int .i64 0) ∧ (∃ v' ok', SYS W.heap.size w' p g cap m q2 h3 g3 v' ok') ∧ LB w' q p g2 v4 (fun k => ok4 k ∧ k < w4.heap.size) ∧ Below W.heap.size W w') from by
    have hb := below_alloc (Below.refl w5.heap.size w5) (.cells #[.int .u8 122] 5 (1, 2))
    have hy := HY5.out.below hb
    have hca := const_arg w5 [122] (1, 2) (by decide)
    refine (hy.start (c := 1) (by have := a2.2.2.2.2.1; omega) (by decide) (by decide) [122] hca (by decide) (by decide) (fun ad e _ => by cases e; have := HY5.out.sr.lt; exact ⟨by show w5.heap.size ≠ _; omega, by show w5.heap.size ≠ _; omega, by show w5.heap.size ≠ _; omega⟩)).mono ?_
    rintro e w' ⟨rfl, ⟨v', h'⟩, hk⟩
    refine ⟨congrArg (fun z => Ending.returned (Value.int .i64 z)) a5.1, ⟨v', _, by have e6 : (startD h2 ⟨0, [zer 17, []], 4⟩ [122]).2.2 = g3 := a5.2.2; rw [e6] at h'; exact h'⟩, ?_, (below_step HB5.out hb).trans (hk.to_below hy.own hy.le)⟩
    have hq2 := HQ2.out
    have hql := HQLT.out
    refine (HL5.out.step hb).kp hk ?_ ?_
    · rintro (e | e | e | e | ⟨e, _⟩)
      · exact HN4.out.1 e
      · exact HN4.out.2.1 e
      · exact HN4.out.2.2 e
      · omega
      · omega
    · rintro k ⟨h1, h2⟩ _ (e | e | e | e | ⟨e, _⟩)
      · exact (HY4.out.hok k h1).2.1 e
      · exact (HY4.out.hok k h1).2.2.1 e
      · exact (HY4.out.hok k h1).2.2.2.1 e
      · omega
      · omega)
  have hcid := conv_id w5 #[.int .u8 122] 1 1
  go_upto_region 11 with (go_at_call 16; refine HST.out.mono ?_; rintro e w6 ⟨rfl, ⟨v6, ok6, hy⟩, hl, hb⟩; have HY6 := Lib.hid hy; have HL6 := Lib.hid hl; have HB6 := Lib.hid hb; clear hy hl hb)
  have HRC := Lib.hid (records_calls HY6.out.lg (by decide) (by decide))
  go_upto_region 12 with (go_at_call 12; refine HRC.out.mono ?_; rintro e w7 ⟨v7, rfl, hr7, hb7⟩; have HR7 := Lib.hid hr7; have HB7 := Lib.hid hb7; clear hr7 hb7)
  obtain ⟨gr, cr, rfl, _, hgr⟩ := rows_form HR7.out (by decide)
  obtain ⟨ad, A', c', ea, hcell, _, hcb⟩ := rows_at (Kd.R_reads' HR7.out).2.2 (i := 0) (x := [122]) rfl
  cases ea
  have hcell0 : w7.cell? ⟨gr, 0, none⟩ = some (.slice A' 1 c') := hcell
  have HCB := Lib.hid hcb
  have HS7 := Lib.hid (HY6.out.sr.below HB7.out)
  have HRD := Lib.hid (show Calls Tryd.prog 22 #[.pointer (some ⟨p, 0, none⟩), .int .i64 0, .int .i64 2] w7 (fun e w' => ∃ A' c', e = .returned (.tuple #[.slice A' 2 c', .int .i64 0]) ∧ Kd.R (Kd.int .u8) 5 w' w7.heap.size (fun _ => True) (.slice A' 2 c') [87, 1] ∧ Below w7.heap.size w7 w') from by
    have := read_calls HS7.out HY6.out.o 0 2
    rw [a6] at this
    exact this)
  go_upto_region 13 with (go_at_call 22; refine HRD.out.mono ?_; rintro e w8 ⟨A8, c8, rfl, hr8, hb8⟩; have HR8 := Lib.hid hr8; have HB8 := Lib.hid hb8; clear hr8 hb8)
  obtain ⟨g8, rfl, _, _, hrow8, _⟩ := Row.of_R HR8.out (by decide)
  have hc8 := hrow8.cell 1 (by decide)
  change w8.cell? ⟨g8, 1, none⟩ = some (.int .u8 1) at hc8
  have HB78 := Lib.hid (below_step HB7.out HB8.out)
  have HLG := Lib.hid (show LG w8 q p g m 0 v4 [zer 17, []] 4 from ⟨(HL6.out.step HB78.out).blk, Kd.R_mono (HL6.out.step HB78.out).rows (fun k hk => (HY4.out.hok k hk.1).2.2.1)⟩)
  have HRM := Lib.hid (show Calls Tryd.prog 17 #[.pointer (some ⟨q, 0, none⟩)] w8 (fun e w' => e = .returned (.int .i64 16) ∧ Below w8.heap.size w8 w') from by
    have := room_calls HLG.out (HS7.out.below HB8.out) HY6.out.o (by decide)
    rw [a7] at this
    exact this)
  have HRE := Lib.hid (fun w' (hw : Below w8.heap.size w8 w') => records_calls (HLG.out.below hw) (by decide) (by intro x hx; simp at hx; rcases hx with rfl | rfl; rw [zer_len]; decide; decide))
  have hcell8 := cell_keep0 HB8.out hcell0
  have HCB8 := Lib.hid (Kd.C_below HCB.out HB8.out)
  have HBW := Lib.hid (below_step HB6.out HB78.out)
  clear hcell hcell0 hcb hgr hrow8
  go_wp2_with (first
    | (go_at_call 17; refine HRM.out.mono ?_; rintro e w9 ⟨rfl, hb⟩; have HB9 := Lib.hid hb; clear hb)
    | (go_at_call 12; refine (HRE.out _ HB9.out).mono ?_; rintro e w10 ⟨v10, rfl, hr10, hb10⟩; obtain ⟨A10, c10, rfl⟩ := Kd.R_slice hr10; have HB10 := Lib.hid (below_step HB9.out hb10); have hcA := cell_keep0 HB10.out hcell8; have hcB := cell_keep0 HB10.out hc8; have hcv := (show (convert 22 9 (.slice A' 1 c')).run Tryd.prog w10 = .ok (.string ⟨#[122]⟩) w10 from strRun (Kd.C_below HCB8.out HB10.out)); clear hr10 hb10))
  go_ret
  exact ⟨rfl, below_step HBW.out HB10.out⟩
end
end Go.Proofs.YtnobhjpobnmiaaaDoor.Wl
