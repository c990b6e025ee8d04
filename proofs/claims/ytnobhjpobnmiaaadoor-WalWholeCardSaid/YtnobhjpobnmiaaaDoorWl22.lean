/- WalAgain: the law walked. -/
import Derived.Test.YtnobhjpobnmiaaaDoorWl17
import Derived.Deep.AppendLies
import Derived.Lib.SlBytesConst
import Derived.Deep.QuietTactic
import Derived.Test.YtnobhjpobnmiaaaDoorWNEv
/- A disk and its log: the walk of the live question. -/
namespace Go.Proofs.YtnobhjpobnmiaaaDoor.Wl
open Go Go.RowKit Go.Maps Go.Proofs Go.Proofs.YtnobhjpobnmiaaaDoor.Sk Go.Proofs.YtnobhjpobnmiaaaDoorW.PrintWords Go.Proofs.YtnobhjpobnmiaaaDoorW.PrintLast Go.Proofs.YtnobhjpobnmiaaaDoorW.PrintMore
set_option linter.unusedVariables false
set_option linter.unusedSimpArgs false

section
variable {B : Nat} {W W' w : World} {p g cap m q : Nat} {s : D} {G : LS} {v : Value} {ok : Nat → Prop}
theorem strRun {A : Option Addr} {n c : Nat} {x : By} (h : CB w A n x) : (convert 22 9 (.slice A n c)).run Tryd.prog w = .ok (.string (strOfNums x)) w := Kd.C_string Tryd.underlying22 Tryd.underlying5 Tryd.underlying9 h
theorem conv_id (w : World) (C : Array Value) (n c : Nat) : (convert 22 22 (.slice (some ⟨w.heap.size, 0, none⟩) n c)).run Tryd.prog (w.alloc (.cells C 5)) = .ok (.slice (some ⟨w.heap.size, 0, none⟩) n c) (w.alloc (.cells C 5 (C.size, C.size + 1))) :=
  Lib.run_convert_bytes_const w 22 5 C n c Tryd.underlying22 Tryd.underlying5
/-- a constant's bytes, read -/
theorem const_arg (w : World) (xs : By) (fz : Nat × Nat) (hl : xs.length ≤ 1000000) : CB (w.alloc (.cells (enc xs).toArray 5 fz)) (some ⟨w.heap.size, 0, none⟩) xs.length xs := by
  refine ⟨rfl, by omega, fun hp => ⟨_, rfl, fun j q hj => ?_⟩⟩
  refine ⟨[.int .u8 q], rfl, rfl, fun i u hu => ?_⟩
  have hi : i = 0 := by
    have := (List.getElem?_eq_some_iff.1 hu).1
    simpa using this
  subst hi
  cases hu
  have hn : (w.alloc (.cells (enc xs).toArray 5 fz)).heap[w.heap.size]? = some (.cells (enc xs).toArray 5 fz) := by
    show (w.heap.push _)[w.heap.size]? = _
    simp
  rw [Sk.add_at]
  show (w.alloc _).cell? ⟨w.heap.size, 0 + (j * 1 + 0), none⟩ = _
  unfold World.cell?
  rw [hn]
  have e : 0 + (j * 1 + 0) = j := by omega
  simp [e, enc, hj]
theorem zarg (w : World) (n : Nat) (hn : n ≤ 1000000) : CB (w.alloc (.cells (enc (zer n)).toArray 5)) (some ⟨w.heap.size, 0, none⟩) (zer n).length (zer n) := by
  have h : Row (w.alloc (.cells (enc (zer n)).toArray 5)) w.heap.size (zer n).length (zer n) := ⟨[], by rw [List.append_nil]; exact blk_new _ _, rfl⟩
  have := h.CB (by rw [zer_len]; omega)
  exact this
theorem nil_arg (w : World) : CB w none ([] : By).length [] := ⟨rfl, by decide, fun h => absurd h (Nat.lt_irrefl 0)⟩
theorem LB.kp {X : Nat → Prop} (h : LB W q p G v ok) (hk : Kp W W' X) (hq : ¬ X q) (hx : ∀ k, ok k → k < W.heap.size → ¬ X k) : LB W' q p G v ok := ⟨(hk.block q (blk_lt h.blk) hq).trans h.blk, Kd.R_step h.rows (fun k h1 h2 => hk.block k h2 (hx k h1 h2))⟩
/-- rows that are not none lie at a block of their own -/
theorem rows_form {base : Nat} {l : List By} (h : RB W base ok v l) (hl : 0 < l.length) : ∃ gr c, v = .slice (some ⟨gr, 0, none⟩) l.length c ∧ base ≤ gr ∧ gr < W.heap.size := by
  obtain ⟨_, inner, ho, _⟩ := h
  exact ho.form hl
set_option maxHeartbeats 8000000 in
set_option maxRecDepth 100000 in
theorem head_walk (W : World) : Calls Tryd.prog 9 #[] W fun e w' => e = .returned (.bool true) ∧ Below W.heap.size W w' := by
  have HBG := Lib.hid (begin_calls 13 (by decide) (by decide) W)
  have m17 : ∀ w : World, (Instr.makeSlice 22 (.int .i64 17) (.int .i64 17)).run Tryd.prog w = .ok (.slice (some ⟨w.heap.size, 0, none⟩) 17 17) (w.alloc (.cells (enc (List.replicate 17 0)).toArray 5)) := fun w => make_run 17 (by decide) w
  have m40 : ∀ w : World, (Instr.makeSlice 22 (.int .i64 40) (.int .i64 40)).run Tryd.prog w = .ok (.slice (some ⟨w.heap.size, 0, none⟩) 40 40) (w.alloc (.cells (enc (List.replicate 40 0)).toArray 5)) := fun w => make_run 40 (by decide) w
  go_enter Tryd.func9, Tryd.ntmps9
  go_upto_region 4 with (go_at_call 15; refine HBG.out.mono ?_; rintro e w1 ⟨p, g, cap, m, q, v, ok, rfl, hy, hb⟩; have HY := Lib.hid hy; have HB := Lib.hid hb; clear hy hb)
  have HA1 := Lib.hid (show Calls Tryd.prog 13 #[.pointer (some ⟨q, 0, none⟩), .slice (some ⟨w1.heap.size, 0, none⟩) 17 17] (w1.alloc (.cells (enc (List.replicate 17 0)).toArray 5)) (fun e w' => e = .returned (.int .i64 0) ∧ (∃ v' ok', SYS W.heap.size w' p g cap m q h1 g1 v' ok') ∧ Below W.heap.size W w') from by
    have hb := below_alloc (Below.refl w1.heap.size w1) (.cells (enc (zer 17)).toArray 5)
    have hy := HY.out.below hb
    refine (hy.append (c := 17) (Nat.zero_le _) (by decide) (by decide) (by decide) (zer 17) (zarg w1 17 (by decide)) (zer_range _) (by rw [zer_len]; decide) (fun ad e _ => by cases e; have := HY.out.sr.lt; exact ⟨by show w1.heap.size ≠ _; omega, by show w1.heap.size ≠ _; omega, by show w1.heap.size ≠ _; omega⟩)).mono ?_
    rintro e w' ⟨rfl, ⟨v', h'⟩, hk⟩
    exact ⟨congrArg (fun z => Ending.returned (Value.int .i64 z)) a1.1, ⟨v', _, by have h2 := h'; have e6 : (appendD (made (zer (13 * 16))) ⟨0, [], 0⟩ (zer 17)).2.2 = g1 := a1.2.2.2.2.2; rw [e6] at h2; exact h2⟩, (below_step HB.out hb).trans (hk.to_below hy.own hy.le)⟩)
  go_upto_region 5 with (go_at_call 13; refine HA1.out.mono ?_; rintro e w2 ⟨rfl, ⟨v2, ok2, hy⟩, hb⟩; have HY2 := Lib.hid hy; have HB2 := Lib.hid hb; clear hy hb)
  have HA2 := Lib.hid (show Calls Tryd.prog 13 #[.pointer (some ⟨q, 0, none⟩), .slice none 0 0] w2 (fun e w' => e = .returned (.int .i64 0) ∧ (∃ v' ok', SYS W.heap.size w' p g cap m q h2 g2 v' ok') ∧ Below W.heap.size W w') from by
    refine (HY2.out.append (c := 0) (by have := a1.2.2.2.2.1; omega) (by decide) (by decide) (by decide) [] (nil_arg w2) (by simp) (by decide) (fun ad e _ => by cases e)).mono ?_
    rintro e w' ⟨rfl, ⟨v', h'⟩, hk⟩
    exact ⟨congrArg (fun z => Ending.returned (Value.int .i64 z)) a2.1, ⟨v', _, by rw [a2.2.2.2.2.2] at h'; exact h'⟩, HB2.out.trans (hk.to_below HY2.out.own HY2.out.le)⟩)
  go_upto_region 6 with (go_at_call 13; refine HA2.out.mono ?_; rintro e w3 ⟨rfl, ⟨v3, ok3, hy⟩, hb⟩; have HY3 := Lib.hid hy; have HB3 := Lib.hid hb; clear hy hb)
  have HA3 := Lib.hid (show Calls Tryd.prog 13 #[.pointer (some ⟨q, 0, none⟩), .slice (some ⟨w3.heap.size, 0, none⟩) 40 40] (w3.alloc (.cells (enc (List.replicate 40 0)).toArray 5)) (fun e w' => e = .returned (.int .i64 51) ∧ (∃ v' ok', SYS W.heap.size w' p g cap m q h2 g2 v' ok') ∧ Below W.heap.size W w') from by
    have hb := below_alloc (Below.refl w3.heap.size w3) (.cells (enc (zer 40)).toArray 5)
    have hy := HY3.out.below hb
    refine (hy.append (c := 40) (by have := a2.2.2.2.2.1; omega) (by decide) (by decide) (by decide) (zer 40) (zarg w3 40 (by decide)) (zer_range _) (by rw [zer_len]; decide) (fun ad e _ => by cases e; have := HY3.out.sr.lt; exact ⟨by show w3.heap.size ≠ _; omega, by show w3.heap.size ≠ _; omega, by show w3.heap.size ≠ _; omega⟩)).mono ?_
    rintro e w' ⟨rfl, ⟨v', h'⟩, hk⟩
    rw [a3] at h' ⊢
    exact ⟨rfl, ⟨v', _, h'⟩, (below_step HB3.out hb).trans (hk.to_below hy.own hy.le)⟩)
  go_upto_region 7 with (go_at_call 13; refine HA3.out.mono ?_; rintro e w4 ⟨rfl, ⟨v4, ok4, hy⟩, hb⟩; have HY4 := Lib.hid hy; have HB4 := Lib.hid hb; clear hy hb)
  have HOP := Lib.hid (open_still (B := W.heap.size) HY4.out.sr HY4.out.o (by have := a2.2.2.2.2.1; omega) ⟨HY4.out.hB.1, HY4.out.hB.2.1, HY4.out.hB.2.2.1⟩ a4)
  go_upto_region 10 with (go_at_call 11; refine HOP.out.mono ?_; rintro e w5 ⟨q2, v5, rfl, hq2, hy, hf⟩; have HQ2 := Lib.hid hq2; have HY5 := Lib.hid hy; have HF5 := Lib.hid hf; clear hq2 hy hf)
  have HL4 := Lib.hid (show LB w4 q p g2 v4 (fun k => ok4 k ∧ k < w4.heap.size) from ⟨HY4.out.lb.blk, Kd.R_mono (Kd.R_bound HY4.out.lb.rows) (fun k hk => ⟨hk.1, hk.2.2.1⟩)⟩)
  have HN4 := Lib.hid (sr_ne HY4.out.sr HY4.out.lb.blk (by decide) (by decide))
  have HL5 := Lib.hid (HL4.out.fr HY4.out.sr HF5.out (fun k hk => ⟨(HY4.out.hok k hk.1).2.1, (HY4.out.hok k hk.1).2.2.1, (HY4.out.hok k hk.1).2.2.2.1⟩))
  have HB5 := Lib.hid (HB4.out.trans (HF5.out.to_below HY4.out.hB.1 HY4.out.hB.2.1 HY4.out.hB.2.2.1 HY4.out.le))
  have HQLT := Lib.hid (blk_lt HL4.out.blk)
  have HST := Lib.hid (show Calls Tryd.prog 16 #[.pointer (some ⟨q2, 0, none⟩), .slice (some ⟨w5.heap.size, 0, none⟩) 1 1] (w5.alloc (.cells #[.int .u8 122] 5 (1, 2))) (fun e w' => e = .returned (.int .i64 0) ∧ (∃ v' ok', SYS W.heap.size w' p g cap m q2 h3 g3 v' ok') ∧ LB w' q p g2 v4 (fun k => ok4 k ∧ k < w4.heap.size) ∧ Below W.heap.size W w') from by
    have hb := below_alloc (Below.refl w5.heap.size w5) (.cells #[.int .u8 122] 5 (1, 2))
    have hy := HY5.out.below hb
    have hca := const_arg w5 [122] (1, 2) (by decide)
    refine (hy.start (c := 1) (by have := a2.2.2.2.2.1; omega) (by decide) (by decide) [122] hca (by decide) (by decide) (fun ad e _ => by cases e; have := HY5.out.sr.lt; exact ⟨by show w5.heap.size ≠ _; omega, by show w5.heap.size ≠ _; omega, by show w5.heap.size ≠ _; omega⟩)).mono ?_
    rintro e w' ⟨rfl, ⟨v', h'⟩, hk⟩
    refine ⟨congrArg (fun z => Ending.returned (Value.int .i64 z)) a5.1, ⟨v', _, by have e6 : (startD h2 ⟨0, [zer 17, []], 4⟩ [122]).2.2 = g3 := a5.2.2; rw [e6] at h'; exact h'⟩, ?_, (below_step HB5.out hb).trans (hk.to_below hy.own hy.le)⟩
    have hq2 := HQ2.out
    have hql := HQLT.out
    refine (HL5.out.step hb).kp hk ?_ ?_
    · rintro (e | e | e | e | ⟨e, _⟩)
      · exact HN4.out.1 e
      · exact HN4.out.2.1 e
      · exact HN4.out.2.2 e
      · omega
      · omega
    · rintro k ⟨h1, h2⟩ _ (e | e | e | e | ⟨e, _⟩)
      · exact (HY4.out.hok k h1).2.1 e
      · exact (HY4.out.hok k h1).2.2.1 e
      · exact (HY4.out.hok k h1).2.2.2.1 e
      · omega
      · omega)
  have hcid := conv_id w5 #[.int .u8 122] 1 1
  go_upto_region 11 with (go_at_call 16; refine HST.out.mono ?_; rintro e w6 ⟨rfl, ⟨v6, ok6, hy⟩, hl, hb⟩; have HY6 := Lib.hid hy; have HL6 := Lib.hid hl; have HB6 := Lib.hid hb; clear hy hl hb)
  have HRC := Lib.hid (records_calls HY6.out.lg (by decide) (by decide))
  go_upto_region 12 with (go_at_call 12; refine HRC.out.mono ?_; rintro e w7 ⟨v7, rfl, hr7, hb7⟩; have HR7 := Lib.hid hr7; have HB7 := Lib.hid hb7; clear hr7 hb7)
  obtain ⟨gr, cr, rfl, _, hgr⟩ := rows_form HR7.out (by decide)
  obtain ⟨ad, A', c', ea, hcell, _, hcb⟩ := rows_at (Kd.R_reads' HR7.out).2.2 (i := 0) (x := [122]) rfl
  cases ea
  have hcell0 : w7.cell? ⟨gr, 0, none⟩ = some (.slice A' 1 c') := hcell
  have HCB := Lib.hid hcb
  have HS7 := Lib.hid (HY6.out.sr.below HB7.out)
  have HRD := Lib.hid (show Calls Tryd.prog 22 #[.pointer (some ⟨p, 0, none⟩), .int .i64 0, .int .i64 2] w7 (fun e w' => ∃ A' c', e = .returned (.tuple #[.slice A' 2 c', .int .i64 0]) ∧ Kd.R (Kd.int .u8) 5 w' w7.heap.size (fun _ => True) (.slice A' 2 c') [87, 1] ∧ Below w7.heap.size w7 w') from by
    have := read_calls HS7.out HY6.out.o 0 2
    rw [a6] at this
    exact this)
  go_upto_region 13 with (go_at_call 22; refine HRD.out.mono ?_; rintro e w8 ⟨A8, c8, rfl, hr8, hb8⟩; have HR8 := Lib.hid hr8; have HB8 := Lib.hid hb8; clear hr8 hb8)
  obtain ⟨g8, rfl, _, _, hrow8, _⟩ := Row.of_R HR8.out (by decide)
  have hc8 := hrow8.cell 1 (by decide)
  change w8.cell? ⟨g8, 1, none⟩ = some (.int .u8 1) at hc8
  have HB78 := Lib.hid (below_step HB7.out HB8.out)
  have HLG := Lib.hid (show LG w8 q p g m 0 v4 [zer 17, []] 4 from ⟨(HL6.out.step HB78.out).blk, Kd.R_mono (HL6.out.step HB78.out).rows (fun k hk => (HY4.out.hok k hk.1).2.2.1)⟩)
  have HRM := Lib.hid (show Calls Tryd.prog 17 #[.pointer (some ⟨q, 0, none⟩)] w8 (fun e w' => e = .returned (.int .i64 16) ∧ Below w8.heap.size w8 w') from by
    have := room_calls HLG.out (HS7.out.below HB8.out) HY6.out.o (by decide)
    rw [a7] at this
    exact this)
  have HRE := Lib.hid (fun w' (hw : Below w8.heap.size w8 w') => records_calls (HLG.out.below hw) (by decide) (by intro x hx; simp at hx; rcases hx with rfl | rfl; rw [zer_len]; decide; decide))
  have hcell8 := cell_keep0 HB8.out hcell0
  have HCB8 := Lib.hid (Kd.C_below HCB.out HB8.out)
  have HBW := Lib.hid (below_step HB6.out HB78.out)
  clear hcell hcell0 hcb hgr hrow8
  go_wp2_with (first
    | (go_at_call 17; refine HRM.out.mono ?_; rintro e w9 ⟨rfl, hb⟩; have HB9 := Lib.hid hb; clear hb)
    | (go_at_call 12; refine (HRE.out _ HB9.out).mono ?_; rintro e w10 ⟨v10, rfl, hr10, hb10⟩; obtain ⟨A10, c10, rfl⟩ := Kd.R_slice hr10; have HB10 := Lib.hid (below_step HB9.out hb10); have hcA := cell_keep0 HB10.out hcell8; have hcB := cell_keep0 HB10.out hc8; have hcv := (show (convert 22 9 (.slice A' 1 c')).run Tryd.prog w10 = .ok (.string ⟨#[122]⟩) w10 from strRun (Kd.C_below HCB8.out HB10.out)); clear hr10 hb10))
  go_ret
  exact ⟨rfl, below_step HBW.out HB10.out⟩
end
end Go.Proofs.YtnobhjpobnmiaaaDoor.Wl
/- Two rows of records: are they alike? -/
namespace Go.Proofs.YtnobhjpobnmiaaaDoor.Wl
open Go Go.RowKit Go.Maps Go.Proofs Go.Proofs.YtnobhjpobnmiaaaDoor.Sk Go.Proofs.YtnobhjpobnmiaaaDoorW.PrintWords Go.Proofs.YtnobhjpobnmiaaaDoorW.PrintLast Go.Proofs.YtnobhjpobnmiaaaDoorW.PrintMore
set_option linter.unusedVariables false
set_option linter.unusedSimpArgs false

theorem str_inj {x y : By} (hx : ∀ u ∈ x, 0 ≤ u ∧ u ≤ 255) (hy : ∀ u ∈ y, 0 ≤ u ∧ u ≤ 255) (h : strOfNums x = strOfNums y) : x = y := by
  have e : Lib.bytesOf x = Lib.bytesOf y := by
    have := congrArg (fun b : ByteArray => b.data.toList) h
    simp only [strOfNums_data] at this
    exact this
  have h2 := bytes_eq hx hy
  rw [e, beq_self_eq_true] at h2
  exact of_decide_eq_true h2.symm
theorem toList_inj {a b : ByteArray} (h : a.toList = b.toList) : a = b := by
  rw [ByteArray.toList_eq, ByteArray.toList_eq] at h
  exact ByteArray.ext (Array.toList_inj.mp h)
theorem take_step {α : Type} {l1 l2 : List α} {i : Nat} {x : α} (h : l1.take i = l2.take i) (h1 : l1[i]? = some x) (h2 : l2[i]? = some x) : l1.take (i + 1) = l2.take (i + 1) := by
  rw [List.take_add_one, List.take_add_one, h, h1, h2]
section
variable {W W' w : World}
set_option maxHeartbeats 4000000 in
set_option maxRecDepth 100000 in
theorem same_calls (A1 A2 : Option Addr) (c1 c2 : Nat) (l1 l2 : List By) (h1 : Kd.C kB W A1 l1.length l1) (h2 : Kd.C kB W A2 l2.length l2) (r1 : ∀ x ∈ l1, ∀ u ∈ x, 0 ≤ u ∧ u ≤ 255) (r2 : ∀ x ∈ l2, ∀ u ∈ x, 0 ≤ u ∧ u ≤ 255) :
    Calls Tryd.prog 14 #[.slice A1 l1.length c1, .slice A2 l2.length c2] W fun e w' => e = .returned (.bool (decide (l1 = l2))) ∧ Below W.heap.size W w' := by
  have H1 := Lib.hid h1
  have H2 := Lib.hid h2
  have HR1 := Lib.hid r1
  have HR2 := Lib.hid r2
  obtain ⟨n, hn⟩ : ∃ n, l1.length = n := ⟨_, rfl⟩
  obtain ⟨m, hm⟩ : ∃ m, l2.length = m := ⟨_, rfl⟩
  have hn9 : (n : Int) ≤ 9223372036854775807 := by have := h1.2.1; omega
  have hm9 : (m : Int) ≤ 9223372036854775807 := by have := h2.2.1; omega
  have HN := Lib.hid hn
  have HM := Lib.hid hm
  rw [hn] at H1 ⊢
  rw [hm] at H2 ⊢
  clear h1 h2 hn hm r1 r2
  go_enter Tryd.func14, Tryd.ntmps14
  by_cases hnm : n = m
  · subst hnm
    go_wp2_with fail
    go_loopg [5] n (fun gg s5 wr => ∃ i : Nat, i ≤ n ∧ n - i ≤ gg ∧ s5 = .int .i64 i ∧ Hid (l1.take i = l2.take i) ∧ Hid (∃ m, wr = W.drewN m))
    case atStart => exact ⟨0, Nat.zero_le _, by omega, rfl, Lib.hid rfl, Lib.hid ⟨0, rfl⟩⟩
    case round =>
      obtain ⟨i, hi, hgg, rfl, HT, HQ⟩ := hrel
      by_cases hlt : i < n
      · have hltz : (i : Int) < (n : Int) := by omega
        have hb : Below W.heap.size W wr := by obtain ⟨q, hq⟩ := HQ.out; rw [hq]; exact below_drewN (Below.refl _ _) q
        obtain ⟨x, hx⟩ : ∃ x, l1[i]? = some x := ⟨_, List.getElem?_eq_getElem (by rw [HN.out]; exact hlt)⟩
        obtain ⟨y, hy⟩ : ∃ y, l2[i]? = some y := ⟨_, List.getElem?_eq_getElem (by rw [HM.out]; exact hlt)⟩
        obtain ⟨ad1, B1, d1, ea1, k1, _, cb1⟩ := rows_at H1.out hx
        obtain ⟨ad2, B2, d2, ea2, k2, _, cb2⟩ := rows_at H2.out hy
        have k1' := cell_keep0 hb k1
        have k2' := cell_keep0 hb k2
        have v1 := fun k => strRun (w := wr.drewN k) (c := d1) (Kd.C_below cb1 (below_drewN hb k))
        have v2 := fun k => strRun (w := wr.drewN k) (c := d2) (Kd.C_below cb2 (below_drewN hb k))
        have HXR := Lib.hid (HR1.out x (List.mem_of_getElem? hx))
        have HYR := Lib.hid (HR2.out y (List.mem_of_getElem? hy))
        have HX := Lib.hid hx
        have HY := Lib.hid hy
        cases ea1
        cases ea2
        obtain ⟨nx, hnx⟩ : ∃ nx, x.length = nx := ⟨_, rfl⟩
        obtain ⟨ny, hny⟩ : ∃ ny, y.length = ny := ⟨_, rfl⟩
        simp only [hnx] at k1' v1
        simp only [hny] at k2' v2
        obtain ⟨S1, hS1⟩ : ∃ S, strOfNums x = S := ⟨_, rfl⟩
        obtain ⟨S2, hS2⟩ : ∃ S, strOfNums y = S := ⟨_, rfl⟩
        have HS1 := Lib.hid hS1
        have HS2 := Lib.hid hS2
        simp only [hS1] at v1
        simp only [hS2] at v2
        clear hb hx hy k1 k2 cb1 cb2 hnx hny hS1 hS2
        have HNE := Lib.hid (fun (h : S1 = S2) => str_inj HXR.out HYR.out (HS1.out.trans (h.trans HS2.out.symm)))
        by_cases hs : S1 = S2
        · have HXY := Lib.hid (HNE.out hs)
          subst hs
          go_upto_region 6 with (fail)
          go_quiet (fail)
          go_wp2_with fail
          go_roundg (n - (i + 1))
          case measure => omega
          case rel => exact ⟨i + 1, by omega, by omega, by go_num, Lib.hid (take_step HT.out HX.out (by rw [HXY.out]; exact HY.out)), by obtain ⟨q, hq⟩ := HQ.out; rw [hq]; exact Lib.hid ⟨q + nq, World.drewN_drewN _ _ _⟩⟩
        · have HNL := Lib.hid (show decide (l1 = l2) = false from decide_eq_false (fun e => by
            have hx := HX.out
            rw [e, HY.out] at hx
            have := Option.some.inj hx
            exact hs (HS1.out.symm.trans ((congrArg strOfNums this.symm).trans HS2.out))))
          have hsb : (S1.toList == S2.toList) = false := beq_eq_false_iff_ne.2 (fun e => hs (toList_inj e))
          go_upto_region 6 with (fail)
          go_quiet (fail)
          go_wp2_with fail
          go_ret
          rw [HNL.out]
          exact ⟨rfl, by obtain ⟨q, hq⟩ := HQ.out; rw [hq]; exact below_drewN (below_drewN (Below.refl _ _) _) _⟩
      · have hltz : ¬ ((i : Int) < (n : Int)) := by omega
        have HEQ := Lib.hid (show decide (l1 = l2) = true from decide_eq_true (by
          have := HT.out
          rw [List.take_of_length_le (by rw [HN.out]; omega), List.take_of_length_le (by rw [HM.out]; omega)] at this
          exact this))
        go_wp2_with fail
        go_ret
        rw [HEQ.out]
        exact ⟨rfl, by obtain ⟨q, hq⟩ := HQ.out; rw [hq]; exact below_drewN (Below.refl _ _) _⟩
  · have hnz : ¬ ((n : Int) = (m : Int)) := by omega
    have HNL := Lib.hid (show decide (l1 = l2) = false from decide_eq_false (fun e => hnm (by rw [← HN.out, ← HM.out, e])))
    go_wp2_with fail
    go_ret
    rw [HNL.out]
    exact ⟨rfl, Below.refl _ _⟩
end
end Go.Proofs.YtnobhjpobnmiaaaDoor.Wl
/- Rows of records beside a log, in memory. -/
namespace Go.Proofs.YtnobhjpobnmiaaaDoor.Wl
open Go Go.RowKit Go.Maps Go.Proofs Go.Proofs.YtnobhjpobnmiaaaDoor.Sk Go.Proofs.YtnobhjpobnmiaaaDoorW.PrintWords Go.Proofs.YtnobhjpobnmiaaaDoorW.PrintLast Go.Proofs.YtnobhjpobnmiaaaDoorW.PrintMore
set_option linter.unusedVariables false
set_option linter.unusedSimpArgs false

/-- rows that a law has, of which some records are its arguments' -/
abbrev NB (W : World) (base : Nat) (ok : Nat → Prop) (v : Value) (l : List By) : Prop := Kd.N kB 22 W base ok v l
section
variable {B b0 : Nat} {W W' w : World} {p g cap m q : Nat} {s : D} {G : LS} {v v2 : Value} {ok : Nat → Prop} {l : List By}
theorem SYS.keep (h : SYS B W p g cap m q s G v ok) (hk : ∀ k, Own p g m q ok k → k < W.heap.size → W'.heap[k]? = W.heap[k]?) : SYS B W' p g cap m q s G v ok :=
  ⟨h.sr.keep (hk p (.inl rfl) h.sr.lt.1) (hk g (.inr (.inl rfl)) h.sr.lt.2.1) (hk m (.inr (.inr (.inl rfl))) h.sr.lt.2.2), h.o,
    ⟨(hk q (.inr (.inr (.inr (.inl rfl)))) (blk_lt h.lb.blk)).trans h.lb.blk, Kd.R_step h.lb.rows (fun k h1 h2 => hk k (.inr (.inr (.inr (.inr h1)))) h2)⟩, h.hok, h.hB⟩
theorem nb_kp (h : NB W b0 (fun k => ¬ Own p g m q ok k) v2 l) (hk : Kp W W' (Own p g m q ok)) : NB W' b0 (fun k => ¬ Own p g m q (fun k => ok k ∨ W.heap.size ≤ k) k) v2 l :=
  Kd.N_mono (Kd.N_step (Kd.N_bound h) (fun k h1 _ => hk.block k h1.2 h1.1)) (fun k h1 => by
    have h2 := h1.2
    rintro (e | e | e | e | e | e)
    · exact h1.1 (.inl e)
    · exact h1.1 (.inr (.inl e))
    · exact h1.1 (.inr (.inr (.inl e)))
    · exact h1.1 (.inr (.inr (.inr (.inl e))))
    · exact h1.1 (.inr (.inr (.inr (.inr e))))
    · omega)
/-- what Records hands back lies beside the log -/
theorem nb_of_rb {w1 : World} (hs : SYS B W p g cap m q s G v ok) (h : RB w1 W.heap.size (fun _ => True) v2 l) : NB w1 b0 (fun k => ¬ Own p g m q (fun k => ok k ∧ k < W.heap.size) k) v2 l ∨ b0 > W.heap.size := by
  by_cases hb : b0 ≤ W.heap.size
  · left
    refine Kd.N_mono (Kd.N_lower (Kd.R_N (Kd.R_bound h)) hb) (fun k hk => ?_)
    have h1 := hs.sr.lt
    have h2 := blk_lt hs.lb.blk
    have h3 := hk.2.1
    rintro (e | e | e | e | ⟨_, e⟩) <;> omega
  · exact .inr (by omega)
/-- an argument's record, as an element -/
theorem fk_arg {W0 : World} {A : Option Addr} {c : Nat} {x : By} (h : CB W0 A x.length x) (hc : x.length ≤ c) (hb : Below W0.heap.size W0 W) : Kd.FK (Kd.slice 5 (Kd.int .u8)) W (fun k => k < W0.heap.size) x [.slice A x.length c] :=
  Kd.FK_slice_mk hc (fun W' hW => CB.keep h fun ad e hp => (hW ad.block (cb_lt h ad e hp) (Nat.lt_of_lt_of_le (cb_lt h ad e hp) hb.size)).trans (hb.block ad.block (cb_lt h ad e hp)))
/-- behind Open the log that was there still is -/
theorem SYS.opened (h : SYS B W p g cap m q s G v ok) {w1 : World} (hs : SR w1 p g cap m s) (hf : Fr W w1 p g m) : SYS B w1 p g cap m q s G v ok :=
  ⟨hs, h.o, h.lb.fr h.sr hf (fun k hk => ⟨(h.hok k hk).2.1, (h.hok k hk).2.2.1, (h.hok k hk).2.2.2.1⟩), h.hok, h.hB⟩
end
theorem room_fits {H t n : Nat} (h : t + need n ≤ H) (hn : n ≤ 6000) : (n : Int) ≤ roomN H t := by
  unfold need at h
  unfold roomN
  omega
theorem room_not {H t n : Nat} (h : H < t + need n) (hn : 0 < n) : ¬ ((n : Int) ≤ roomN H t) := by
  unfold need at h
  unfold roomN
  omega
/-- a record more in a law's rows -/
theorem nb_append {ops : Array Oper} {rest : List Oper} {o : Oper} {a : Act} {W w0 : World} {Q : Exit → Act → World → Prop} (hgd : o.guard = none) (s x : Operand)
    (ho : o.op = .call { callee := .builtin .append, args := #[s, x], argTypes := #[30, 30] }) {v : Value} {l : List By} {y : By} {A1 : Option Addr} {n c1 b0 : Nat} {ok okp : Nat → Prop}
    (hs : a.eval s = v) (hx : a.eval x = .slice (some ⟨W.heap.size, 0, none⟩) 1 1) (hp : Kd.FK (Kd.slice 5 (Kd.int .u8)) W okp y [.slice A1 n c1]) (hokp : ∀ k, okp k → ok k ∧ some k ≠ v.ownBlock) (hfresh : ∀ k, W.heap.size ≤ k → ok k)
    (hv : NB W b0 ok v l) (hb : Below b0 w0 W) (hb0 : b0 ≤ W.heap.size) (hl : l.length ≤ 100000)
    (h : ∀ v1 w1, NB w1 b0 ok v1 (l ++ [y]) → W.grownBy w1 v.ownBlock → wpList Tryd.prog ops Q rest (a.put o.dst v1) w1) :
    wpList Tryd.prog ops Q (o :: rest) a (W.alloc (.cells #[.slice A1 n c1] 22)) :=
  Kd.N_append kB (w0 := w0) (W := W) b0 hgd s x 30 22 (.slice none 0 0) 24 ho Tryd.underlying30 infoB rfl (by decide) (by decide) v l y [.slice A1 n c1] ok okp hs hx hp hokp hfresh hv hb hb0 (by omega) (fun v1 w1 h1 _ h3 _ => h v1 w1 h1 h3)
end Go.Proofs.YtnobhjpobnmiaaaDoor.Wl
/- WalRoom: the law walked. -/
namespace Go.Proofs.YtnobhjpobnmiaaaDoor.Wl
open Go Go.RowKit Go.Maps Go.Proofs Go.Proofs.YtnobhjpobnmiaaaDoor.Sk Go.Proofs.YtnobhjpobnmiaaaDoorW.PrintWords Go.Proofs.YtnobhjpobnmiaaaDoorW.PrintLast Go.Proofs.YtnobhjpobnmiaaaDoorW.PrintMore
set_option linter.unusedVariables false
set_option linter.unusedSimpArgs false

section
variable {B : Nat} {W W' w : World} {p g cap m q : Nat} {s : D} {G : LS} {v : Value} {ok : Nat → Prop}
theorem SYS.bound (h : SYS B W p g cap m q s G v ok) : SYS B W p g cap m q s G v (fun k => ok k ∧ k < W.heap.size) := ⟨h.sr, h.o, ⟨h.lb.blk, Kd.R_mono (Kd.R_bound h.lb.rows) (fun k hk => ⟨hk.1, hk.2.2.1⟩)⟩, fun k hk => h.hok k hk.1, h.hB⟩
theorem CB.kp {X : Nat → Prop} {A : Option Addr} {n : Nat} {x : By} (h : CB W A n x) (hk : Kp W W' X) (hA : ∀ ad, A = some ad → 0 < n → ¬ X ad.block) : CB W' A n x := CB.keep h fun ad e hp => hk.block _ (cb_lt h ad e hp) (hA ad e hp)
set_option maxHeartbeats 8000000 in
set_option maxRecDepth 100000 in
theorem walRoom_walk (x y : Int) (x0 : 0 ≤ x) (x1 : x ≤ 65535) (y0 : 0 ≤ y) (y1 : y ≤ 65535) (W : World) : Calls Tryd.prog 4 #[.int .u16 x, .int .u16 y] W fun e w' => e = .returned (.bool true) ∧ Below W.heap.size W w' := by
  obtain ⟨n, hn⟩ : ∃ n : Nat, 3 + x % 300 = (n : Int) := ⟨(3 + x % 300).toNat, by omega⟩
  obtain ⟨L, hL⟩ : ∃ L : Nat, y % 200 = (L : Int) := ⟨(y % 200).toNat, by omega⟩
  have hn1 : 3 ≤ n ∧ n ≤ 302 := by omega
  have hL1 : L ≤ 199 := by omega
  obtain ⟨nd, hnd⟩ : ∃ nd, need L = nd := ⟨_, rfl⟩
  have hnd2 : nd = 1 + (L + 15) / 16 := by rw [← hnd]; rfl
  obtain ⟨H, hH⟩ : ∃ H, (n - 1) / 2 = H := ⟨_, rfl⟩
  obtain ⟨mm, hmm⟩ : ∃ mm, H / nd = mm := ⟨_, rfl⟩
  have hndp : 1 ≤ nd ∧ nd ≤ 14 := by omega
  have hmm1 : mm * nd ≤ H := by rw [← hmm]; exact Nat.div_mul_le_self H nd
  have hmm2 : H < (mm + 1) * nd := by rw [← hmm, Nat.mul_comm]; exact Nat.lt_mul_div_succ H (by omega)
  have hHb : H ≤ 150 := by omega
  have hmb : mm ≤ 150 := by rw [← hmm]; exact Nat.le_trans (Nat.div_le_self H nd) hHb
  have HHF := Lib.hid (show half (n * 16) = H by rw [half_16, hH])
  have HH := Lib.hid (head_walk W)
  have HBG := Lib.hid (fun w => begin_calls n (by omega) (by omega) w)
  have HNX := Lib.hid hn
  have HLX := Lib.hid hL
  have HND := Lib.hid hnd
  have HM1 := Lib.hid hmm1
  have HM2 := Lib.hid hmm2
  have HDP := Lib.hid hndp
  have v1 : (15 + (L : Int)) / 16 + 1 = (nd : Int) := by omega
  have v2 : 1 + ((L : Int) + 15) / 16 = (nd : Int) := by omega
  have v3 : ((n : Int) - 1) / 2 = (H : Int) := by omega
  have v4 : (H : Int) / (nd : Int) = (mm : Int) := by rw [← hmm]; norm_cast
  have v5 : (L : Int) ≤ 199 := by omega
  have v6 : ¬ ((nd : Int) = 0) := by omega
  have v7 : (n : Int) ≤ 302 := by omega
  have v8 : 3 ≤ (n : Int) := by omega
  have HV := Lib.hid (And.intro v2 (And.intro v3 v4))
  have m1 := make_run L (by omega)
  clear hn hL hnd hnd2 hH hmm hmm1 hmm2 v1 v2 v3 v4
  go_enter Tryd.func4, Tryd.ntmps4
  go_upto_region 3 with (go_at_call 9; refine HH.out.mono ?_; rintro e w0 ⟨rfl, hb⟩; have HB0 := Lib.hid hb; clear hb)
  rw [HNX.out]
  go_upto_region 6 with (go_at_call 15; refine (HBG.out _).mono ?_; rintro e w1 ⟨p, g, cap, m, q, v, ok, rfl, hy, hb⟩; have HY := Lib.hid (SYS.bound hy); have HB := Lib.hid (below_step HB0.out hb); have HS0 := Lib.hid hb.size; clear hy hb)
  have hHL := HLX.out
  go_upto_region 7 with (fail)
  have hb2 := below_alloc (Below.refl w1.heap.size w1) (.cells (enc (List.replicate L 0)).toArray 5)
  have HY2 := Lib.hid (HY.out.below hb2)
  have HB2 := Lib.hid (below_step HB.out hb2)
  have HCB := Lib.hid (by have := zarg w1 L (by omega); rw [zer_len] at this; exact this : CB (w1.alloc (.cells (enc (List.replicate L 0)).toArray 5)) (some ⟨w1.heap.size, 0, none⟩) L (zer L))
  have HGL := Lib.hid (show w1.heap.size < (w1.alloc (.cells (enc (List.replicate L 0)).toArray 5)).heap.size by rw [size_alloc]; omega)
  have HNO := Lib.hid (show ¬ Own p g m q (fun k => (ok k ∧ k < w1.heap.size)) w1.heap.size by
    have h1 := HY.out.sr.lt
    have h2 := blk_lt HY.out.lb.blk
    rintro (e | e | e | e | ⟨_, e⟩) <;> omega)
  have HSB := Lib.hid (show W.heap.size ≤ w0.heap.size from HB0.out.size)
  generalize w1.alloc (.cells (enc (List.replicate L 0)).toArray 5) = w2 at HY2 HB2 HCB HGL ⊢
  obtain ⟨gb, hgb⟩ : ∃ gb, w1.heap.size = gb := ⟨_, rfl⟩
  rw [hgb] at HCB HGL HNO HY2 ⊢
  have hHV := HV.out.1
  clear hgb hb2 hHL
  have hHV2 := HV.out.2.1
  have hHV3 := HV.out.2.2
  have HG0 := Lib.hid (show ∃ v' ok', SYS W.heap.size w2 p g cap m q (made (zer (n * 16))) ⟨0, List.replicate 0 (zer L), 0 * nd⟩ v' ok' ∧ ¬ Own p g m q ok' gb ∧ Below W.heap.size W w2 from by
    refine ⟨v, _, ?_, HNO.out, HB2.out⟩
    rw [Nat.zero_mul]
    exact ⟨HY2.out.sr, HY2.out.o, HY2.out.lb, fun k hk => by have := HY2.out.hok k hk; exact ⟨Nat.le_trans HSB.out this.1, this.2⟩, by have := HY2.out.hB; have := HSB.out; omega⟩)
  go_upto_block 0 with (fail)
  clear hHV hHV2 hHV3
  go_wp2_with fail
  go_loopg [13, 14] mm (fun gg s13 s14 wr => ∃ i : Nat, i ≤ mm ∧ mm - i ≤ gg ∧ s13 = .int .i64 i ∧ ∃ s : D, Hid (Up s ∧ s.b.length = n * 16 ∧ s.acts ≤ 4 * i) ∧ Hid (∃ v' ok', SYS W.heap.size wr p g cap m q s ⟨0, List.replicate i (zer L), i * nd⟩ v' ok' ∧ ¬ Own p g m q ok' gb ∧ Below W.heap.size W wr) ∧ Hid (CB wr (some ⟨gb, 0, none⟩) L (zer L)) ∧ Hid (gb < wr.heap.size))
  case atStart => exact ⟨0, Nat.zero_le _, by omega, rfl, made (zer (n * 16)), Lib.hid ⟨made_up n, zer_len _, Nat.le_refl _⟩, HG0, HCB, HGL⟩
  case round =>
    obtain ⟨i, hi, hgg, rfl, s, HU, HG, HC, HLT⟩ := hrel
    by_cases hlt : i < mm
    · have hltz : (i : Int) < (mm : Int) := by omega
      have HAP := Lib.hid (show Calls Tryd.prog 13 #[.pointer (some ⟨q, 0, none⟩), .slice (some ⟨gb, 0, none⟩) L L] wr (fun e w' => e = .returned (.int .i64 0) ∧ ∃ s' : D, (Up s' ∧ s'.b.length = n * 16 ∧ s'.acts ≤ 4 * (i + 1)) ∧ (∃ v' ok', SYS W.heap.size w' p g cap m q s' ⟨0, List.replicate (i + 1) (zer L), (i + 1) * nd⟩ v' ok' ∧ ¬ Own p g m q ok' gb ∧ Below W.heap.size W w') ∧ CB w' (some ⟨gb, 0, none⟩) L (zer L) ∧ gb < w'.heap.size) from by
        obtain ⟨v', ok', hs, hno, hbl⟩ := HG.out
        obtain ⟨u1, u2, u3⟩ := HU.out
        have hit : (i + 1) * nd ≤ H := Nat.le_trans (Nat.mul_le_mul_right nd (by omega)) HM1.out
        have hit2 : i * nd + nd = (i + 1) * nd := by rw [Nat.add_mul, Nat.one_mul]
        have hu := up_append (G := ⟨0, List.replicate i (zer L), i * nd⟩) u1 hs.o (by rw [u2]; omega) (show (0 : Nat) ≤ 1 by decide) (b := zer L) (zer_range _) (by rw [zer_len]; omega) (by rw [u2, HHF.out, zer_len, HND.out]; show nd + i * nd ≤ H; omega)
        have hap := hs.append (c := L) (by omega) (show (0 : Nat) ≤ 1 by decide) (by show i * nd ≤ 100000; omega) (by show (List.replicate i (zer L)).length ≤ _; rw [List.length_replicate]; omega) (zer L) (by rw [zer_len]; exact HC.out) (zer_range _) (by rw [zer_len]; omega) (fun ad e _ => by cases e; exact ⟨fun e => hno (.inl e), fun e => hno (.inr (.inl e)), fun e => hno (.inr (.inr (.inl e)))⟩)
        rw [zer_len] at hap
        refine hap.mono ?_
        rintro e w' ⟨rfl, ⟨v2, h2⟩, hk⟩
        have e6 := hu.2.2.2.2.2
        rw [zer_len, HND.out] at e6
        refine ⟨by rw [hu.1], (appendD s ⟨0, List.replicate i (zer L), i * nd⟩ (zer L)).1, ⟨hu.2.1, hu.2.2.2.1.trans u2, by have := hu.2.2.2.2.1; omega⟩, ⟨v2, (fun k => ok' k ∨ wr.heap.size ≤ k), ?_, ?_, hbl.trans (hk.to_below hs.own hs.le)⟩, CB.kp HC.out hk (fun ad e _ => by cases e; exact hno), Nat.lt_of_lt_of_le HLT.out hk.size⟩
        · rw [e6] at h2
          rw [List.replicate_succ', ← hit2]
          exact h2
        · have := HLT.out
          rintro (e | e | e | e | e | e)
          · exact hno (.inl e)
          · exact hno (.inr (.inl e))
          · exact hno (.inr (.inr (.inl e)))
          · exact hno (.inr (.inr (.inr (.inl e))))
          · exact hno (.inr (.inr (.inr (.inr e))))
          · omega)
      go_wp2_with (go_at_call 13; refine HAP.out.mono ?_; rintro e w3 ⟨rfl, s3, hu3, hg3, hc3, hl3⟩; have HU3 := Lib.hid hu3; have HG3 := Lib.hid hg3; have HC3 := Lib.hid hc3; have HL3 := Lib.hid hl3; clear hu3 hg3 hc3 hl3)
      go_roundg (mm - (i + 1))
      case measure => omega
      case rel => exact ⟨i + 1, by omega, by omega, by go_num, s3, HU3, HG3, HC3, HL3⟩
    · have hltz : ¬ ((i : Int) < (mm : Int)) := by omega
      have him : i = mm := by omega
      subst him
      have HAP := Lib.hid (show Calls Tryd.prog 13 #[.pointer (some ⟨q, 0, none⟩), .slice (some ⟨gb, 0, none⟩) L L] wr (fun e w' => e = .returned (.int .i64 51) ∧ (∃ v' ok', SYS W.heap.size w' p g cap m q s ⟨0, List.replicate i (zer L), i * nd⟩ v' ok' ∧ ¬ Own p g m q ok' gb ∧ Below W.heap.size W w') ∧ CB w' (some ⟨gb, 0, none⟩) L (zer L) ∧ gb < w'.heap.size) from by
        obtain ⟨v', ok', hs, hno, hbl⟩ := HG.out
        obtain ⟨u1, u2, u3⟩ := HU.out
        have hit2 : i * nd + nd = (i + 1) * nd := by rw [Nat.add_mul, Nat.one_mul]
        have hu := append_full (s := s) (G := ⟨0, List.replicate i (zer L), i * nd⟩) (b := zer L) (by rw [zer_len]; omega) (by rw [u2, HHF.out, zer_len, HND.out]; show H < nd + i * nd; have := HM2.out; omega)
        have hap := hs.append (c := L) (by omega) (show (0 : Nat) ≤ 1 by decide) (by show i * nd ≤ 100000; have := HM1.out; omega) (by show (List.replicate i (zer L)).length ≤ _; rw [List.length_replicate]; omega) (zer L) (by rw [zer_len]; exact HC.out) (zer_range _) (by rw [zer_len]; omega) (fun ad e _ => by cases e; exact ⟨fun e => hno (.inl e), fun e => hno (.inr (.inl e)), fun e => hno (.inr (.inr (.inl e)))⟩)
        rw [zer_len, hu] at hap
        refine hap.mono ?_
        rintro e w' ⟨rfl, ⟨v2, h2⟩, hk⟩
        refine ⟨rfl, ⟨v2, _, h2, ?_, hbl.trans (hk.to_below hs.own hs.le)⟩, CB.kp HC.out hk (fun ad e _ => by cases e; exact hno), Nat.lt_of_lt_of_le HLT.out hk.size⟩
        have := HLT.out
        rintro (e | e | e | e | e | e)
        · exact hno (.inl e)
        · exact hno (.inr (.inl e))
        · exact hno (.inr (.inr (.inl e)))
        · exact hno (.inr (.inr (.inr (.inl e))))
        · exact hno (.inr (.inr (.inr (.inr e))))
        · omega)
      go_upto_region 16 with (go_at_call 13; refine HAP.out.mono ?_; rintro e w3 ⟨rfl, ⟨v3, ok3, hs3, hno3, hb3⟩, hc3, hl3⟩; have HS3 := Lib.hid hs3; have HN3 := Lib.hid hno3; have HB3 := Lib.hid hb3; have HC3 := Lib.hid hc3; clear hs3 hno3 hb3 hc3 hl3)
      have HRC := Lib.hid (records_calls HS3.out.lg (by show (List.replicate i (zer L)).length ≤ _; rw [List.length_replicate]; omega) (fun x hx => by rw [List.eq_of_mem_replicate hx, zer_len]; omega))
      go_upto_region 17 with (go_at_call 12; refine HRC.out.mono ?_; rintro e w4 ⟨v4, rfl, hr4, hb4⟩; obtain ⟨A4, c4, rfl⟩ := Kd.R_slice hr4; (rw [List.length_replicate]); have HB4 := Lib.hid hb4; clear hr4 hb4)
      have HS4 := Lib.hid (HS3.out.below HB4.out)
      have HC4 := Lib.hid (Kd.C_below HC3.out HB4.out)
      have HBW4 := Lib.hid (below_step HB3.out HB4.out)
      have hS4 : ∀ e w', (e = Ending.returned (Value.int .i64 (startD s ⟨0, List.replicate i (zer L), i * nd⟩ (zer L)).2.1) ∧ (∃ v', SYS W.heap.size w' p g cap m q (startD s ⟨0, List.replicate i (zer L), i * nd⟩ (zer L)).1 (startD s ⟨0, List.replicate i (zer L), i * nd⟩ (zer L)).2.2 v' (fun k => ok3 k ∨ w4.heap.size ≤ k)) ∧ Kp w4 w' (Own p g m q ok3)) → Below W.heap.size W w' := fun e w' h => HBW4.out.trans (h.2.2.to_below HS4.out.own HS4.out.le)
      have HST := Lib.hid (show Calls Tryd.prog 16 #[.pointer (some ⟨q, 0, none⟩), .slice (some ⟨gb, 0, none⟩) L L] w4 (fun e w' => (e = Ending.returned (Value.int .i64 (startD s ⟨0, List.replicate i (zer L), i * nd⟩ (zer L)).2.1) ∧ (∃ v', SYS W.heap.size w' p g cap m q (startD s ⟨0, List.replicate i (zer L), i * nd⟩ (zer L)).1 (startD s ⟨0, List.replicate i (zer L), i * nd⟩ (zer L)).2.2 v' (fun k => ok3 k ∨ w4.heap.size ≤ k)) ∧ Kp w4 w' (Own p g m q ok3))) from by
        obtain ⟨u1, u2, u3⟩ := HU.out
        have hap := HS4.out.start (c := L) (by omega) (show (0 : Nat) ≤ 1 by decide) (by show i * nd ≤ 100000; have := HM1.out; omega) (zer L) (by rw [zer_len]; exact HC4.out) (zer_range _) (by rw [zer_len]; omega) (fun ad e _ => by cases e; exact ⟨fun e => HN3.out (.inl e), fun e => HN3.out (.inr (.inl e)), fun e => HN3.out (.inr (.inr (.inl e)))⟩)
        rw [zer_len] at hap
        exact hap)
      by_cases hi0 : i = 0
      · have hsf : startD s ⟨0, List.replicate i (zer L), i * nd⟩ (zer L) = (s, 51, ⟨0, List.replicate i (zer L), i * nd⟩) := start_full (by rw [zer_len]; omega) (by rw [HU.out.2.1, HHF.out, zer_len, HND.out]; have := HM2.out; rw [hi0] at this; omega)
        have hiz : (i : Int) = 0 := by omega
        rw [hsf] at HST hS4
        go_wp2_with (go_at_call 16; refine HST.out.mono ?_; intro e w5 h5; have HB5 := Lib.hid (hS4 e w5 h5); obtain ⟨rfl, _, _⟩ := h5)
        go_ret
        exact ⟨rfl, HB5.out⟩
      · have hsf := up_start (G := ⟨0, List.replicate i (zer L), i * nd⟩) HU.out.1 HS4.out.o (by rw [HU.out.2.1]; omega) (show (0 : Nat) ≤ 1 by decide) (b := zer L) (zer_range _) (by rw [zer_len]; omega) (by
          rw [HU.out.2.1, HHF.out, zer_len, HND.out]
          have := HM1.out
          have h1 : 1 * nd ≤ i * nd := Nat.mul_le_mul_right nd (by omega)
          omega)
        have hiz : ¬ ((i : Int) = 0) := by omega
        rw [hsf.1, hsf.2.2] at HST hS4
        obtain ⟨s5, hs5⟩ : ∃ s5, (startD s ⟨0, List.replicate i (zer L), i * nd⟩ (zer L)).1 = s5 := ⟨_, rfl⟩
        rw [hs5] at HST hS4
        clear hsf hs5
        go_wp2_with (first
          | (go_at_call 16; refine HST.out.mono ?_; intro e w5 h5; have HB5 := Lib.hid (hS4 e w5 h5); obtain ⟨rfl, ⟨v5, hs5⟩, _⟩ := h5; have HRC5 := Lib.hid (records_calls hs5.lg (show (1 : Nat) ≤ 100000 by decide) (fun x hx => by rw [List.mem_singleton.1 hx, zer_len]; omega)); clear hs5)
          | (go_at_call 12; refine HRC5.out.mono ?_; rintro e w6 ⟨v6, rfl, hr6, hb6⟩; obtain ⟨A6, c6, rfl⟩ := Kd.R_slice hr6; have HB6 := Lib.hid (below_step HB5.out hb6); clear hr6 hb6))
        go_ret
        exact ⟨rfl, HB6.out⟩
end
end Go.Proofs.YtnobhjpobnmiaaaDoor.Wl
namespace Go.Proofs.YtnobhjpobnmiaaaDoor.Wl
open Go Go.RowKit Go.Maps Go.Proofs Go.Proofs.YtnobhjpobnmiaaaDoor.Sk Go.Proofs.YtnobhjpobnmiaaaDoorW.PrintWords Go.Proofs.YtnobhjpobnmiaaaDoorW.PrintLast Go.Proofs.YtnobhjpobnmiaaaDoorW.PrintMore
set_option linter.unusedVariables false
set_option linter.unusedSimpArgs false

/-- the disk's state between a law's calls -/
structure Well (n : Nat) (s : D) (a : Nat) (l : List By) (t k : Nat) : Prop where
  calm : Calm s
  good : Good s.b a l t
  clean : Clean s.b a t
  len : s.b.length = n * 16
  acts : s.acts ≤ k
section
variable {B : Nat} {W W' w : World} {p g cap m q : Nat} {s : D} {G : LS} {v : Value} {ok : Nat → Prop}
set_option maxHeartbeats 16000000 in
set_option maxRecDepth 100000 in
theorem walAgain_walk (x : Int) (x0 : 0 ≤ x) (x1 : x ≤ 65535) (A : Option Addr) (c : Nat) (ls : List By) (hls : Kd.C kB W A ls.length ls) (hr : ∀ y ∈ ls, ∀ u ∈ y, 0 ≤ u ∧ u ≤ 255) : Calls Tryd.prog 5 #[.int .u16 x, .slice A ls.length c] W fun e w' => e = .returned (.bool true) ∧ Below W.heap.size W w' := by
  obtain ⟨n, hn⟩ : ∃ n : Nat, 3 + x % 300 = (n : Int) := ⟨(3 + x % 300).toNat, by omega⟩
  have hn1 : 3 ≤ n ∧ n ≤ 302 := by omega
  have HH := Lib.hid (head_walk W)
  have HBG := Lib.hid (fun w => begin_calls n (by omega) (by omega) w)
  have HNX := Lib.hid hn
  have HLS := Lib.hid hls
  have HRR := Lib.hid hr
  obtain ⟨N, hN⟩ : ∃ N, ls.length = N := ⟨_, rfl⟩
  have HNL := Lib.hid hN
  have hN9 : (N : Int) ≤ 9223372036854775807 := by have := hls.2.1; omega
  rw [hN] at HLS ⊢
  clear hn hls hr hN
  go_enter Tryd.func5, Tryd.ntmps5
  go_upto_region 2 with (go_at_call 9; refine HH.out.mono ?_; rintro e w0 ⟨rfl, hb⟩; have HB0 := Lib.hid hb; clear hb)
  have hnx := HNX.out
  go_upto_region 5 with (go_at_call 15; refine (HBG.out _).mono ?_; rintro e w1 ⟨p, g, cap, m, q, v, ok, rfl, hy, hb⟩; have HY := Lib.hid (SYS.bound hy); have HB := Lib.hid (below_step HB0.out hb); clear hy hb)
  clear hnx
  by_cases h60 : 60 < N
  · have h60z : (N : Int) > 60 := by omega
    go_wp2_with fail
    go_ret
    exact ⟨rfl, HB.out⟩
  · have h60z : ¬ ((N : Int) > 60) := by omega
    have HSB := Lib.hid (show W.heap.size ≤ w0.heap.size from HB0.out.size)
    have HG0 := Lib.hid (show ∃ s t l v' ok', Well n s 0 l t (4 * 0) ∧ SYS W.heap.size w1 p g cap m q s ⟨0, l, t⟩ v' ok' ∧ l.length ≤ 0 ∧ (∀ y ∈ l, (∀ u ∈ y, 0 ≤ u ∧ u ≤ 255) ∧ y.length ≤ 6000) from
      ⟨made (zer (n * 16)), 0, [], v, _, ⟨⟨made_up n, rfl⟩, made_good n hn1.1, made_clean n hn1.1, zer_len _, Nat.le_refl _⟩, ⟨HY.out.sr, HY.out.o, HY.out.lb, fun k hk => by have := HY.out.hok k hk; exact ⟨Nat.le_trans HSB.out this.1, this.2⟩, by have := HY.out.hB; have := HSB.out; omega⟩, Nat.le_refl _, fun y hy => by cases hy⟩)
    go_upto_block 0 with (fail)
    go_wp2_with fail
    go_loopg [9] N (fun gg s9 wr => ∃ i : Nat, i ≤ N ∧ N - i ≤ gg ∧ s9 = .int .i64 i ∧ Hid (∃ s t l v' ok', Well n s 0 l t (4 * i) ∧ SYS W.heap.size wr p g cap m q s ⟨0, l, t⟩ v' ok' ∧ l.length ≤ i ∧ (∀ y ∈ l, (∀ u ∈ y, 0 ≤ u ∧ u ≤ 255) ∧ y.length ≤ 6000)) ∧ Hid (Below W.heap.size W wr))
    case atStart => exact ⟨0, Nat.zero_le _, by omega, rfl, HG0, HB⟩
    case round =>
      obtain ⟨i, hi, hgg, rfl, HG, HBW⟩ := hrel
      by_cases hlt : i < N
      · have hltz : (i : Int) < (N : Int) := by omega
        obtain ⟨y, hy⟩ : ∃ y, ls[i]? = some y := ⟨_, List.getElem?_eq_getElem (by rw [HNL.out]; exact hlt)⟩
        obtain ⟨ad, A', c', ea, hcell, hyc, hcb⟩ := rows_at HLS.out hy
        have hcell1 := cell_keep0 HBW.out hcell
        have HCB := Lib.hid hcb
        have HYC := Lib.hid hyc
        have HYR := Lib.hid (HRR.out y (List.mem_of_getElem? hy))
        obtain ⟨ny, hny⟩ : ∃ ny, y.length = ny := ⟨_, rfl⟩
        have HNY := Lib.hid hny
        have HY9 := Lib.hid hcb.2.1
        have HCL := Lib.hid hcell
        rw [hny] at hcell1
        cases ea
        clear hy hcell hyc hcb hny
        by_cases hbig : 6000 < ny
        · have hbz : (ny : Int) > 6000 := by omega
          go_wp2_with fail
          go_ret
          exact ⟨rfl, HBW.out⟩
        · have hbz : ¬ ((ny : Int) > 6000) := by omega
          obtain ⟨s, t, l, v', ok', hw, hs, hll, hlr⟩ := HG.out
          have HW := Lib.hid hw
          have HS := Lib.hid hs
          have HLL := Lib.hid hll
          have HLR := Lib.hid hlr
          have HTH := Lib.hid (show t ≤ 2048 from Nat.le_trans hw.good.th (half_le (by rw [hw.len]; omega)))
          clear hw hs hll hlr
          have HRC := Lib.hid (records_calls HS.out.lg (by show l.length ≤ _; have := HLL.out; omega) (fun z hz => by have := (HLR.out z hz).2; omega))
          go_upto_region 13 with (go_at_call 12; (with_reducible refine HRC.out.mono ?_); rintro e w2 ⟨v2, rfl, hr2, hb2⟩; have HR2 := Lib.hid hr2; have HB2 := Lib.hid hb2; clear hr2 hb2)
          -- ROUND
          have HS2 := Lib.hid ((HS.out.bound).below HB2.out)
          have HN2 := Lib.hid ((nb_of_rb (b0 := W.heap.size) HS.out HR2.out).resolve_right (by have := HS.out.le; omega))
          obtain ⟨H, hH⟩ : ∃ H, half s.b.length = H := ⟨_, rfl⟩
          obtain ⟨rm, hrm⟩ : ∃ rm, roomN H t = rm := ⟨_, rfl⟩
          have HHH := Lib.hid hH
          have HRMV := Lib.hid hrm
          have HRM := Lib.hid (by have := room_calls HS2.out.lg HS2.out.sr HS2.out.o (show t ≤ 1000000 by have := HTH.out; omega); rw [hH, hrm] at this; exact this : Calls Tryd.prog 17 #[.pointer (some ⟨q, 0, none⟩)] w2 fun e w' => e = .returned (.int .i64 rm) ∧ Below w2.heap.size w2 w')
          clear hH hrm
          go_upto_region 14 with (go_at_call 17; (with_reducible refine HRM.out.mono ?_); rintro e w3 ⟨rfl, hb3⟩; have HB3 := Lib.hid hb3; clear hb3)
          have HS3 := Lib.hid (HS2.out.below HB3.out)
          have HN3 := Lib.hid (Kd.N_below HN2.out HB3.out)
          have HBW3 := Lib.hid (below_step HBW.out (below_step HB2.out HB3.out))
          have hcell3 := cell_keep0 (below_step HB2.out HB3.out) hcell1
          have HA' := Lib.hid (fun ad' (e : A' = some ad') (h0 : 0 < y.length) => (by
            have h1 := cb_lt HCB.out ad' e h0
            have := HS3.out.hB
            exact ⟨by omega, by omega, by omega⟩ : ad'.block ≠ p ∧ ad'.block ≠ g ∧ ad'.block ≠ m))
          have HAPP := Lib.hid (by
            have := HS3.out.append (c := c') (by have := HW.out.acts; omega) (show (0 : Nat) ≤ 1 by decide) (by show t ≤ _; have := HTH.out; omega) (by show l.length ≤ _; have := HLL.out; omega) y (Kd.C_below HCB.out HBW3.out) HYR.out (by rw [HNY.out]; omega) HA'.out
            rw [HNY.out] at this
            exact this : Calls Tryd.prog 13 #[.pointer (some ⟨q, 0, none⟩), .slice A' ny c'] w3 fun e w' => e = .returned (.int .i64 (appendD s ⟨0, l, t⟩ y).2.1) ∧ (∃ v'', SYS W.heap.size w' p g cap m q (appendD s ⟨0, l, t⟩ y).1 (appendD s ⟨0, l, t⟩ y).2.2 v'' (fun k => (ok' k ∧ k < wr.heap.size) ∨ w3.heap.size ≤ k)) ∧ Kp w3 w' (Own p g m q (fun k => ok' k ∧ k < wr.heap.size)))
          by_cases hfit : t + need ny ≤ H
          · obtain ⟨s1, e1, k1, k2, k3, k4, k5, k6⟩ := calm_append HS3.out.o HW.out.calm HW.out.good HW.out.clean HYR.out (show y.length ≤ 16384 by rw [HNY.out]; omega) (by rw [HNY.out, HHH.out]; exact hfit)
            have HW5 := Lib.hid (show Well n s1 0 (l ++ [y]) (t + need y.length) (4 * (i + 1)) from ⟨k1, k3, k4, k5.trans HW.out.len, by have := HW.out.acts; omega⟩)
            have hrz : ¬ ((ny : Int) > rm) := by have := room_fits hfit (by omega : ny ≤ 6000); rw [HRMV.out] at this; omega
            rw [e1] at HAPP
            clear e1 k1 k2 k3 k4 k5 k6 hfit
            go_upto_region 16 with (go_at_call 13; (with_reducible refine HAPP.out.mono ?_); rintro e w4 ⟨rfl, ⟨v4, hs4⟩, hk4⟩; have HS4 := Lib.hid hs4; have HK4 := Lib.hid hk4; clear hs4 hk4)
            have HN4 := Lib.hid (Kd.N_mono (nb_kp HN3.out HK4.out) (fun k hk (h : Own p g m q (fun k => ((ok' k ∧ k < wr.heap.size) ∨ w3.heap.size ≤ k) ∧ k < w4.heap.size) k) => hk (by
              rcases h with e | e | e | e | e
              · exact .inl e
              · exact .inr (.inl e)
              · exact .inr (.inr (.inl e))
              · exact .inr (.inr (.inr (.inl e)))
              · exact .inr (.inr (.inr (.inr e.1))))))
            have HS4b := Lib.hid HS4.out.bound
            have HBW4 := Lib.hid (HBW3.out.trans (HK4.out.to_below HS3.out.own HS3.out.le))
            have hcell4 := (by have := cell_keep0 HBW4.out HCL.out; rw [HNY.out] at this; exact this : w4.cell? (ad.add i) = some (.slice A' ny c'))
            have HLL5 := Lib.hid (show (l ++ [y]).length ≤ i + 1 by rw [List.length_append]; have := HLL.out; show l.length + 1 ≤ _; omega)
            have HLR5 := Lib.hid (show ∀ z ∈ l ++ [y], (∀ u ∈ z, 0 ≤ u ∧ u ≤ 255) ∧ z.length ≤ 6000 from fun z hz => by
              rcases List.mem_append.1 hz with hz | hz
              · exact HLR.out z hz
              · rw [List.mem_singleton.1 hz]; exact ⟨HYR.out, by rw [HNY.out]; omega⟩)
            have HFK := Lib.hid (by have := fk_arg HCB.out HYC.out HBW4.out; rw [HNY.out] at this; exact this : Kd.FK (Kd.slice 5 (Kd.int .u8)) w4 (fun k => k < W.heap.size) y [.slice A' ny c'])
            clear hcell1 hcell3
            go_upto_region 17 with (at_builtin; refine nb_append (W := w4) (w0 := w4) (b0 := W.heap.size) rfl (.tmp 57) (.tmp 62) rfl rfl rfl HFK.out (fun k hk => ⟨fun h => by have := HS4b.out.own k h; omega, fun e => by have := Kd.N_base HN4.out k e.symm; omega⟩) (fun k hk h => by
              have h1 := HS4b.out.sr.lt
              have h2 := blk_lt HS4b.out.lb.blk
              rcases h with e | e | e | e | ⟨_, e⟩ <;> omega) HN4.out ⟨rfl, rfl, rfl, Nat.le_refl _, fun _ _ => rfl⟩ HBW4.out.size (by have := HLL.out; omega) ?_; intro v5 w5 hn5 hg5; have HN5 := Lib.hid hn5; have HS5 := Lib.hid (HS4b.out.keep (fun k hk hlt => hg5.block k hlt (fun e => HN4.out.1 k e.symm hk))); have HBW5 := Lib.hid (HBW4.out.trans (show Below W.heap.size w4 w5 from ⟨hg5.os, hg5.tape, hg5.output, hg5.size, fun k hk => hg5.block k (Nat.lt_of_lt_of_le hk HBW4.out.size) (fun e => by have := Kd.N_base HN4.out k e.symm; omega)⟩)); clear hn5 hg5)
            have hcell5 := (by have := cell_keep0 HBW5.out HCL.out; rw [HNY.out] at this; exact this : w5.cell? (ad.add i) = some (.slice A' ny c'))
            clear hcell4
            have HCK := Lib.hid (fun w' (hb : Below w5.heap.size w5 w') => cell_keep0 hb hcell5)
            obtain ⟨A5, c5, rfl⟩ := Kd.N_slice HN5.out
            have HC5 := Lib.hid (Kd.N_reads' HN5.out).2.2
            have HRC5 := Lib.hid (records_calls HS5.out.lg (by show (l ++ [y]).length ≤ _; have := HLL5.out; omega) (fun z hz => by have := (HLR5.out z hz).2; omega))
            obtain ⟨n5, hn5⟩ : ∃ n5, (l ++ [y]).length = n5 := ⟨_, rfl⟩
            have HN5L := Lib.hid hn5
            rw [hn5] at HC5 ⊢
            have HSM := Lib.hid (fun (w6 : World) (A6 : Option Addr) (c6 : Nat) (hb : Below w5.heap.size w5 w6) (h6 : Kd.C kB w6 A6 n5 (l ++ [y])) => (by
              have := same_calls A6 A5 c6 c5 (l ++ [y]) (l ++ [y]) (by rw [hn5]; exact h6) (by rw [hn5]; exact Kd.C_below HC5.out hb) (fun z hz => (HLR5.out z hz).1) (fun z hz => (HLR5.out z hz).1)
              rw [hn5, decide_eq_true rfl] at this
              exact this : Calls Tryd.prog 14 #[.slice A6 n5 c6, .slice A5 n5 c5] w6 fun e w' => e = .returned (.bool true) ∧ Below w6.heap.size w6 w'))
            clear hn5
            go_upto_region 19 with (first
              | (go_at_call 12; (with_reducible refine HRC5.out.mono ?_); rintro e w6 ⟨v6, rfl, hr6, hb6⟩; obtain ⟨A6, c6, rfl⟩ := Kd.R_slice hr6; have HC6 := Lib.hid (Kd.R_reads' hr6).2.2; have HB6 := Lib.hid hb6; rw [HN5L.out] at HC6; (rw [HN5L.out]); clear hr6 hb6)
              | (go_at_call 14; (with_reducible refine (HSM.out _ _ _ HB6.out HC6.out).mono ?_); rintro e w7 ⟨rfl, hb7⟩; have HB7 := Lib.hid (below_step HB6.out hb7); have hcell7 := HCK.out _ HB7.out; clear hb7))
            have HS7 := Lib.hid (HS5.out.below HB7.out)
            have HC7 := Lib.hid (Kd.C_below HC5.out HB7.out)
            have HBW7 := Lib.hid (below_step HBW5.out HB7.out)
            obtain ⟨ac, hac⟩ : ∃ ac, s1.acts = ac := ⟨_, rfl⟩
            have HAC := Lib.hid (fun w' (hr : SR w' p g cap m s1) => (by have := acts_calls hr; rw [hac] at this; exact this : Calls Tryd.prog 18 #[.pointer (some ⟨p, 0, none⟩)] w' fun e w2 => e = .returned (.int .i64 (ac : Int)) ∧ w2 = w'))
            have HACE := Lib.hid hac
            clear hac
            have HOP := Lib.hid (open_still (B := W.heap.size) HS7.out.sr HS7.out.o (by have := HW5.out.acts; omega) ⟨HS7.out.hB.1, HS7.out.hB.2.1, HS7.out.hB.2.2.1⟩ (open_good HW5.out.calm.up.down HW5.out.good HW5.out.clean (by rw [HW5.out.len]; omega)))
            go_upto_region 21 with (first
              | (go_at_call 18; (with_reducible refine (HAC.out _ HS7.out.sr).mono ?_); rintro e w' ⟨rfl, rfl⟩)
              | (go_at_call 11; (with_reducible refine HOP.out.mono ?_); rintro e w8 ⟨q2, v8, rfl, _, hy8, hf8⟩; have HY8 := Lib.hid hy8; have HF8 := Lib.hid hf8; clear hy8 hf8))
            have HS8 := Lib.hid (HS7.out.opened HY8.out.sr HF8.out)
            have HBW8 := Lib.hid (HBW7.out.trans (HF8.out.to_below HS7.out.hB.1 HS7.out.hB.2.1 HS7.out.hB.2.2.1 HS7.out.le))
            have HC8 := Lib.hid (show Kd.C kB w8 A5 n5 (l ++ [y]) from by
              have hN7 := Kd.N_below HN5.out HB7.out
              have hN8 := Kd.N_step hN7 (fun k hk hlt => HF8.out.block k hlt (fun e => hk (.inl e)) (fun e => hk (.inr (.inl e))) (fun e => hk (.inr (.inr (.inl e)))))
              have := (Kd.N_reads' hN8).2.2
              rw [HN5L.out] at this
              exact this)
            have HRC8 := Lib.hid (records_calls HY8.out.lg (by show (l ++ [y]).length ≤ _; have := HLL5.out; omega) (fun z hz => by have := (HLR5.out z hz).2; omega))
            have HSM8 := Lib.hid (fun (w9 : World) (A9 : Option Addr) (c9 : Nat) (hb : Below w8.heap.size w8 w9) (h9 : Kd.C kB w9 A9 n5 (l ++ [y])) => (by
              have := same_calls A9 A5 c9 c5 (l ++ [y]) (l ++ [y]) (by rw [HN5L.out]; exact h9) (by rw [HN5L.out]; exact Kd.C_below HC8.out hb) (fun z hz => (HLR5.out z hz).1) (fun z hz => (HLR5.out z hz).1)
              rw [HN5L.out, decide_eq_true rfl] at this
              exact this : Calls Tryd.prog 14 #[.slice A9 n5 c9, .slice A5 n5 c5] w9 fun e w' => e = .returned (.bool true) ∧ Below w9.heap.size w9 w'))
            go_wp2_with (first
              | (go_at_call 12; (with_reducible refine HRC8.out.mono ?_); rintro e w9 ⟨v9, rfl, hr9, hb9⟩; obtain ⟨A9, c9, rfl⟩ := Kd.R_slice hr9; have HC9 := Lib.hid (Kd.R_reads' hr9).2.2; have HB9 := Lib.hid hb9; rw [HN5L.out] at HC9; (rw [HN5L.out]); clear hr9 hb9)
              | (go_at_call 14; (with_reducible refine (HSM8.out _ _ _ HB9.out HC9.out).mono ?_); rintro e wx ⟨rfl, hbx⟩; have HBX := Lib.hid (below_step HB9.out hbx); clear hbx)
              | (go_at_call 18; (with_reducible refine (HAC.out _ (HS8.out.sr.below HBX.out)).mono ?_); rintro e w' ⟨rfl, rfl⟩))
            go_roundg (N - (i + 1))
            case measure => omega
            case rel => exact ⟨i + 1, by omega, by omega, by go_num, Lib.hid ⟨_, _, _, _, _, HW5.out, HS8.out.below HBX.out, HLL5.out, HLR5.out⟩, Lib.hid (below_step HBW8.out HBX.out)⟩
          · have hfn := append_full (s := s) (G := ⟨0, l, t⟩) (b := y) (by rw [HNY.out]; omega) (by rw [HHH.out, HNY.out]; show H < need ny + t; omega)
            have HW5 := Lib.hid (show Well n s 0 l t (4 * (i + 1)) from ⟨HW.out.calm, HW.out.good, HW.out.clean, HW.out.len, by have := HW.out.acts; omega⟩)
            have HRN := Lib.hid (fun (h : 0 < ny) => (by have := room_not (H := H) (t := t) (n := ny) (by omega) h; rw [HRMV.out] at this; exact this : ¬ ((ny : Int) ≤ rm)))
            rw [hfn] at HAPP
            have HLL5 := Lib.hid (show l.length ≤ i + 1 by have := HLL.out; omega)
            have HLR5 := HLR
            clear hfn hfit hcell1
            go_upto_region 17 with (go_at_call 13; (with_reducible refine HAPP.out.mono ?_); rintro e w5 ⟨rfl, ⟨v4, hs4⟩, hk4⟩; have HS5 := Lib.hid hs4; have HK4 := Lib.hid hk4; clear hs4 hk4)
            have HN5 := Lib.hid (nb_kp HN3.out HK4.out)
            have HBW5 := Lib.hid (HBW3.out.trans (HK4.out.to_below HS3.out.own HS3.out.le))
            have hcell5 := (by have := cell_keep0 HBW5.out HCL.out; rw [HNY.out] at this; exact this : w5.cell? (ad.add i) = some (.slice A' ny c'))
            clear hcell3
            have HCK := Lib.hid (fun w' (hb : Below w5.heap.size w5 w') => cell_keep0 hb hcell5)
            by_cases hp0 : 0 < ny
            · have hpz : (ny : Int) > 0 := by omega
              have hqz := HRN.out hp0
              obtain ⟨A5, c5, rfl⟩ := Kd.N_slice HN5.out
              have HC5 := Lib.hid (Kd.N_reads' HN5.out).2.2
              have HRC5 := Lib.hid (records_calls HS5.out.lg (by show (l).length ≤ _; have := HLL5.out; omega) (fun z hz => by have := (HLR5.out z hz).2; omega))
              obtain ⟨n5, hn5⟩ : ∃ n5, (l).length = n5 := ⟨_, rfl⟩
              have HN5L := Lib.hid hn5
              rw [hn5] at HC5 ⊢
              have HSM := Lib.hid (fun (w6 : World) (A6 : Option Addr) (c6 : Nat) (hb : Below w5.heap.size w5 w6) (h6 : Kd.C kB w6 A6 n5 (l)) => (by
                have := same_calls A6 A5 c6 c5 (l) (l) (by rw [hn5]; exact h6) (by rw [hn5]; exact Kd.C_below HC5.out hb) (fun z hz => (HLR5.out z hz).1) (fun z hz => (HLR5.out z hz).1)
                rw [hn5, decide_eq_true rfl] at this
                exact this : Calls Tryd.prog 14 #[.slice A6 n5 c6, .slice A5 n5 c5] w6 fun e w' => e = .returned (.bool true) ∧ Below w6.heap.size w6 w'))
              clear hn5
              go_upto_region 19 with (first
                | (go_at_call 12; (with_reducible refine HRC5.out.mono ?_); rintro e w6 ⟨v6, rfl, hr6, hb6⟩; obtain ⟨A6, c6, rfl⟩ := Kd.R_slice hr6; have HC6 := Lib.hid (Kd.R_reads' hr6).2.2; have HB6 := Lib.hid hb6; rw [HN5L.out] at HC6; (rw [HN5L.out]); clear hr6 hb6)
                | (go_at_call 14; (with_reducible refine (HSM.out _ _ _ HB6.out HC6.out).mono ?_); rintro e w7 ⟨rfl, hb7⟩; have HB7 := Lib.hid (below_step HB6.out hb7); have hcell7 := HCK.out _ HB7.out; clear hb7))
              have HS7 := Lib.hid (HS5.out.below HB7.out)
              have HC7 := Lib.hid (Kd.C_below HC5.out HB7.out)
              have HBW7 := Lib.hid (below_step HBW5.out HB7.out)
              obtain ⟨ac, hac⟩ : ∃ ac, s.acts = ac := ⟨_, rfl⟩
              have HAC := Lib.hid (fun w' (hr : SR w' p g cap m s) => (by have := acts_calls hr; rw [hac] at this; exact this : Calls Tryd.prog 18 #[.pointer (some ⟨p, 0, none⟩)] w' fun e w2 => e = .returned (.int .i64 (ac : Int)) ∧ w2 = w'))
              have HACE := Lib.hid hac
              clear hac
              have HOP := Lib.hid (open_still (B := W.heap.size) HS7.out.sr HS7.out.o (by have := HW5.out.acts; omega) ⟨HS7.out.hB.1, HS7.out.hB.2.1, HS7.out.hB.2.2.1⟩ (open_good HW5.out.calm.up.down HW5.out.good HW5.out.clean (by rw [HW5.out.len]; omega)))
              go_upto_region 21 with (first
                | (go_at_call 18; (with_reducible refine (HAC.out _ HS7.out.sr).mono ?_); rintro e w' ⟨rfl, rfl⟩)
                | (go_at_call 11; (with_reducible refine HOP.out.mono ?_); rintro e w8 ⟨q2, v8, rfl, _, hy8, hf8⟩; have HY8 := Lib.hid hy8; have HF8 := Lib.hid hf8; clear hy8 hf8))
              have HS8 := Lib.hid (HS7.out.opened HY8.out.sr HF8.out)
              have HBW8 := Lib.hid (HBW7.out.trans (HF8.out.to_below HS7.out.hB.1 HS7.out.hB.2.1 HS7.out.hB.2.2.1 HS7.out.le))
              have HC8 := Lib.hid (show Kd.C kB w8 A5 n5 (l) from by
                have hN7 := Kd.N_below HN5.out HB7.out
                have hN8 := Kd.N_step hN7 (fun k hk hlt => HF8.out.block k hlt (fun e => hk (.inl e)) (fun e => hk (.inr (.inl e))) (fun e => hk (.inr (.inr (.inl e)))))
                have := (Kd.N_reads' hN8).2.2
                rw [HN5L.out] at this
                exact this)
              have HRC8 := Lib.hid (records_calls HY8.out.lg (by show (l).length ≤ _; have := HLL5.out; omega) (fun z hz => by have := (HLR5.out z hz).2; omega))
              have HSM8 := Lib.hid (fun (w9 : World) (A9 : Option Addr) (c9 : Nat) (hb : Below w8.heap.size w8 w9) (h9 : Kd.C kB w9 A9 n5 (l)) => (by
                have := same_calls A9 A5 c9 c5 (l) (l) (by rw [HN5L.out]; exact h9) (by rw [HN5L.out]; exact Kd.C_below HC8.out hb) (fun z hz => (HLR5.out z hz).1) (fun z hz => (HLR5.out z hz).1)
                rw [HN5L.out, decide_eq_true rfl] at this
                exact this : Calls Tryd.prog 14 #[.slice A9 n5 c9, .slice A5 n5 c5] w9 fun e w' => e = .returned (.bool true) ∧ Below w9.heap.size w9 w'))
              go_wp2_with (first
                | (go_at_call 12; (with_reducible refine HRC8.out.mono ?_); rintro e w9 ⟨v9, rfl, hr9, hb9⟩; obtain ⟨A9, c9, rfl⟩ := Kd.R_slice hr9; have HC9 := Lib.hid (Kd.R_reads' hr9).2.2; have HB9 := Lib.hid hb9; rw [HN5L.out] at HC9; (rw [HN5L.out]); clear hr9 hb9)
                | (go_at_call 14; (with_reducible refine (HSM8.out _ _ _ HB9.out HC9.out).mono ?_); rintro e wx ⟨rfl, hbx⟩; have HBX := Lib.hid (below_step HB9.out hbx); clear hbx)
                | (go_at_call 18; (with_reducible refine (HAC.out _ (HS8.out.sr.below HBX.out)).mono ?_); rintro e w' ⟨rfl, rfl⟩))
              go_roundg (N - (i + 1))
              case measure => omega
              case rel => exact ⟨i + 1, by omega, by omega, by go_num, Lib.hid ⟨_, _, _, _, _, HW5.out, HS8.out.below HBX.out, HLL5.out, HLR5.out⟩, Lib.hid (below_step HBW8.out HBX.out)⟩
            · have hpz : ¬ ((ny : Int) > 0) := by omega
              obtain ⟨A5, c5, rfl⟩ := Kd.N_slice HN5.out
              have HC5 := Lib.hid (Kd.N_reads' HN5.out).2.2
              have HRC5 := Lib.hid (records_calls HS5.out.lg (by show (l).length ≤ _; have := HLL5.out; omega) (fun z hz => by have := (HLR5.out z hz).2; omega))
              obtain ⟨n5, hn5⟩ : ∃ n5, (l).length = n5 := ⟨_, rfl⟩
              have HN5L := Lib.hid hn5
              rw [hn5] at HC5 ⊢
              have HSM := Lib.hid (fun (w6 : World) (A6 : Option Addr) (c6 : Nat) (hb : Below w5.heap.size w5 w6) (h6 : Kd.C kB w6 A6 n5 (l)) => (by
                have := same_calls A6 A5 c6 c5 (l) (l) (by rw [hn5]; exact h6) (by rw [hn5]; exact Kd.C_below HC5.out hb) (fun z hz => (HLR5.out z hz).1) (fun z hz => (HLR5.out z hz).1)
                rw [hn5, decide_eq_true rfl] at this
                exact this : Calls Tryd.prog 14 #[.slice A6 n5 c6, .slice A5 n5 c5] w6 fun e w' => e = .returned (.bool true) ∧ Below w6.heap.size w6 w'))
              clear hn5
              go_upto_region 19 with (first
                | (go_at_call 12; (with_reducible refine HRC5.out.mono ?_); rintro e w6 ⟨v6, rfl, hr6, hb6⟩; obtain ⟨A6, c6, rfl⟩ := Kd.R_slice hr6; have HC6 := Lib.hid (Kd.R_reads' hr6).2.2; have HB6 := Lib.hid hb6; rw [HN5L.out] at HC6; (rw [HN5L.out]); clear hr6 hb6)
                | (go_at_call 14; (with_reducible refine (HSM.out _ _ _ HB6.out HC6.out).mono ?_); rintro e w7 ⟨rfl, hb7⟩; have HB7 := Lib.hid (below_step HB6.out hb7); have hcell7 := HCK.out _ HB7.out; clear hb7))
              have HS7 := Lib.hid (HS5.out.below HB7.out)
              have HC7 := Lib.hid (Kd.C_below HC5.out HB7.out)
              have HBW7 := Lib.hid (below_step HBW5.out HB7.out)
              obtain ⟨ac, hac⟩ : ∃ ac, s.acts = ac := ⟨_, rfl⟩
              have HAC := Lib.hid (fun w' (hr : SR w' p g cap m s) => (by have := acts_calls hr; rw [hac] at this; exact this : Calls Tryd.prog 18 #[.pointer (some ⟨p, 0, none⟩)] w' fun e w2 => e = .returned (.int .i64 (ac : Int)) ∧ w2 = w'))
              have HACE := Lib.hid hac
              clear hac
              have HOP := Lib.hid (open_still (B := W.heap.size) HS7.out.sr HS7.out.o (by have := HW5.out.acts; omega) ⟨HS7.out.hB.1, HS7.out.hB.2.1, HS7.out.hB.2.2.1⟩ (open_good HW5.out.calm.up.down HW5.out.good HW5.out.clean (by rw [HW5.out.len]; omega)))
              go_upto_region 21 with (first
                | (go_at_call 18; (with_reducible refine (HAC.out _ HS7.out.sr).mono ?_); rintro e w' ⟨rfl, rfl⟩)
                | (go_at_call 11; (with_reducible refine HOP.out.mono ?_); rintro e w8 ⟨q2, v8, rfl, _, hy8, hf8⟩; have HY8 := Lib.hid hy8; have HF8 := Lib.hid hf8; clear hy8 hf8))
              have HS8 := Lib.hid (HS7.out.opened HY8.out.sr HF8.out)
              have HBW8 := Lib.hid (HBW7.out.trans (HF8.out.to_below HS7.out.hB.1 HS7.out.hB.2.1 HS7.out.hB.2.2.1 HS7.out.le))
              have HC8 := Lib.hid (show Kd.C kB w8 A5 n5 (l) from by
                have hN7 := Kd.N_below HN5.out HB7.out
                have hN8 := Kd.N_step hN7 (fun k hk hlt => HF8.out.block k hlt (fun e => hk (.inl e)) (fun e => hk (.inr (.inl e))) (fun e => hk (.inr (.inr (.inl e)))))
                have := (Kd.N_reads' hN8).2.2
                rw [HN5L.out] at this
                exact this)
              have HRC8 := Lib.hid (records_calls HY8.out.lg (by show (l).length ≤ _; have := HLL5.out; omega) (fun z hz => by have := (HLR5.out z hz).2; omega))
              have HSM8 := Lib.hid (fun (w9 : World) (A9 : Option Addr) (c9 : Nat) (hb : Below w8.heap.size w8 w9) (h9 : Kd.C kB w9 A9 n5 (l)) => (by
                have := same_calls A9 A5 c9 c5 (l) (l) (by rw [HN5L.out]; exact h9) (by rw [HN5L.out]; exact Kd.C_below HC8.out hb) (fun z hz => (HLR5.out z hz).1) (fun z hz => (HLR5.out z hz).1)
                rw [HN5L.out, decide_eq_true rfl] at this
                exact this : Calls Tryd.prog 14 #[.slice A9 n5 c9, .slice A5 n5 c5] w9 fun e w' => e = .returned (.bool true) ∧ Below w9.heap.size w9 w'))
              go_wp2_with (first
                | (go_at_call 12; (with_reducible refine HRC8.out.mono ?_); rintro e w9 ⟨v9, rfl, hr9, hb9⟩; obtain ⟨A9, c9, rfl⟩ := Kd.R_slice hr9; have HC9 := Lib.hid (Kd.R_reads' hr9).2.2; have HB9 := Lib.hid hb9; rw [HN5L.out] at HC9; (rw [HN5L.out]); clear hr9 hb9)
                | (go_at_call 14; (with_reducible refine (HSM8.out _ _ _ HB9.out HC9.out).mono ?_); rintro e wx ⟨rfl, hbx⟩; have HBX := Lib.hid (below_step HB9.out hbx); clear hbx)
                | (go_at_call 18; (with_reducible refine (HAC.out _ (HS8.out.sr.below HBX.out)).mono ?_); rintro e w' ⟨rfl, rfl⟩))
              go_roundg (N - (i + 1))
              case measure => omega
              case rel => exact ⟨i + 1, by omega, by omega, by go_num, Lib.hid ⟨_, _, _, _, _, HW5.out, HS8.out.below HBX.out, HLL5.out, HLR5.out⟩, Lib.hid (below_step HBW8.out HBX.out)⟩
      · have hltz : ¬ ((i : Int) < (N : Int)) := by omega
        go_wp2_with fail
        go_ret
        exact ⟨rfl, HBW.out⟩
end
end Go.Proofs.YtnobhjpobnmiaaaDoor.Wl
