/- A log in memory: the walk of scan. -/
import Derived.Test.YtnobhjpobnmiaaaDoorWlA
import Derived.StillTailTactics
namespace Go.Proofs.YtnobhjpobnmiaaaDoor.Wl
open Go Go.RowKit Go.Maps Go.Proofs Go.Proofs.YtnobhjpobnmiaaaDoor.Sk Go.Proofs.YtnobhjpobnmiaaaDoorW.PrintWords Go.Proofs.YtnobhjpobnmiaaaDoorW.PrintLast Go.Proofs.YtnobhjpobnmiaaaDoorW.PrintMore
set_option linter.unusedVariables false
set_option linter.unusedSimpArgs false

theorem own_ne {W : World} {B : Nat} {ok : Nat → Prop} {v : Value} {l : List By} (h : RB W B ok v l) {q : Nat} {cs : Array Value} {t : TypeId} (hq : W.heap[q]? = some (.cells cs t (0, 0))) (ht : ∀ k, k ∈ 22 :: kB.E → k ≠ t) : some q ≠ v.ownBlock := fun e => by
  obtain ⟨_, _, _, ty, h4, cells, h5⟩ := (Kd.R_bound h).1 q e.symm
  rw [hq] at h5
  injection h5 with h5
  injection h5 with _ h6
  exact ht ty h4 h6.symm
/-- behind the store of the longer row -/
theorem app_after {w w5 : World} {B q : Nat} {ok : Nat → Prop} {v v1 a0 a1 a3 : Value} {l : List By} (hq : w.heap[q]? = some (.cells #[a0, a1, v, a3] 57 (0, 0))) (hv : RB w B ok v l) (hg : w.grownBy w5 v.ownBlock) {l1 : List By} (h5 : RB w5 B ok v1 l1) :
    (w5.setCell ⟨q, 2, none⟩ v1).heap[q]? = some (.cells #[a0, a1, v1, a3] 57 (0, 0)) ∧ RB (w5.setCell ⟨q, 2, none⟩ v1) B ok v1 l1 ∧ (∀ i, i < w.heap.size → i ≠ q → some i ≠ v.ownBlock → (w5.setCell ⟨q, 2, none⟩ v1).heap[i]? = w.heap[i]?) ∧ w.heap.size ≤ (w5.setCell ⟨q, 2, none⟩ v1).heap.size := by
  have hne := own_ne hv hq (by decide)
  have hb := (hg.block q (blk_lt hq) hne).trans hq
  exact ⟨blk_put hb 2 v1 rfl, Kd.R_set h5 hb (by decide) 2 v1, fun i hi h1 h2 => (Below.heap_setCell w5 ⟨q, 2, none⟩ v1 i h1).trans (hg.block i hi h2), by rw [World.size_setCell]; exact hg.size⟩
theorem log_put3 {w : World} {q B : Nat} {ok : Nat → Prop} {v a0 a1 a3 : Value} {l : List By} (hq : w.heap[q]? = some (.cells #[a0, a1, v, a3] 57 (0, 0))) (hv : RB w B ok v l) (x : Int) (t' : Nat) (hx : x = (t' : Int)) :
    (w.setCell ⟨q, 3, none⟩ (.int .i64 x)).drew.heap[q]? = some (.cells #[a0, a1, v, .int .i64 (t' : Int)] 57 (0, 0)) ∧ RB (w.setCell ⟨q, 3, none⟩ (.int .i64 x)).drew B ok v l := by
  subst hx
  exact ⟨blk_put hq 3 (.int .i64 (t' : Int)) rfl, Kd.R_below (Kd.R_set hv hq (by decide) 3 _) (below_drew (Below.refl _ _))⟩
section
variable {W W' w : World} {p q area gb cb : Nat} {all : By}
set_option maxHeartbeats 8000000 in
set_option maxRecDepth 100000 in
theorem scan_calls (hq : W.heap[q]? = some (.cells #[.pointer (some ⟨p, 0, none⟩), .int .i64 (area : Int), .slice none 0 0, .int .i64 0] 57 (0, 0))) (hall : Row W gb cb all) (hr : ∀ u ∈ all, 0 ≤ u ∧ u ≤ 255) (hal : all.length ≤ 65536) (hcb : cb ≤ 9223372036854775807) :
    Calls Tryd.prog 30 #[.pointer (some ⟨q, 0, none⟩), .slice (some ⟨gb, 0, none⟩) all.length cb] W fun e w' => e = .returned (.tuple #[]) ∧ ∃ v, w'.heap[q]? = some (.cells #[.pointer (some ⟨p, 0, none⟩), .int .i64 (area : Int), v, .int .i64 ((scan 5000 [] 0 all).2 : Int)] 57 (0, 0)) ∧
      RB w' W.heap.size (fun _ => True) v (scan 5000 [] 0 all).1 ∧ Fr W w' q q q := by
  have hql := blk_lt hq
  have hbl := hall.lt
  have hne : gb ≠ q := by
    obtain ⟨ext, hrow, _⟩ := hall
    exact blk_ne hrow hq (by decide)
  have hcl : all.length ≤ cb := by obtain ⟨ext, _, e⟩ := hall; omega
  obtain ⟨L, hL⟩ : ∃ L, all.length = L := ⟨_, rfl⟩
  obtain ⟨F, hF⟩ : ∃ F, scan 5000 [] 0 all = F := ⟨_, rfl⟩
  have HLL := Lib.hid hL
  have HAL := Lib.hid hall
  have HRG := Lib.hid hr
  have HQ := Lib.hid hq
  have HBN := Lib.hid (show gb < W.heap.size ∧ gb ≠ q ∧ q < W.heap.size from ⟨hbl, hne, hql⟩)
  rw [hF]
  rw [hL] at hal hcl ⊢
  have H0 := Lib.hid (show scan 5000 [] 0 (all.drop 0) = F by rw [List.drop_zero]; exact hF)
  clear hq hall hr hql hbl hne hL hF
  go_enter Tryd.func30, Tryd.ntmps30
  go_wp2_with fail
  go_loopg [1] 5000 (fun gg s1 wr => ∃ (f o n c t : Nat) (A : Option Addr) (v : Value) (l : List By), f ≤ gg ∧ n < 16 * f ∧ o + n = L ∧ n ≤ c ∧ c ≤ cb ∧ t * 16 = o ∧ s1 = .slice A n c ∧ (0 < n → A = some ⟨gb, o, none⟩) ∧ l.length ≤ t ∧ Hid (scan f l t (all.drop o) = F) ∧
    Hid (wr.heap[q]? = some (.cells #[.pointer (some ⟨p, 0, none⟩), .int .i64 (area : Int), v, .int .i64 (t : Int)] 57 (0, 0))) ∧ Hid (RB wr W.heap.size (fun _ => True) v l) ∧ Hid (Fr W wr q q q))
  case atStart => exact ⟨5000, 0, L, cb, 0, _, _, [], Nat.le_refl _, by omega, by omega, hcl, Nat.le_refl _, rfl, rfl, fun _ => rfl, Nat.le_refl _, H0, HQ, Lib.hid (Kd.R_nil _ _ _ _ _), Lib.hid (Fr.refl _ _ _ _)⟩
  case round =>
    obtain ⟨f, o, n, c, t, A, v, l, hf, hnf, hon, hnc, hcc, hto, rfl, hA, hlt0, HS, HQR, HV, HFR⟩ := hrel
    have HEND := Lib.hid (fun (h : ¬ isRec l.length (all.drop o)) => (by
      have hs := HS.out
      cases f with
      | zero => exact absurd hnf (by omega)
      | succ f => rw [scan, if_neg h] at hs; exact hs : (l, t) = F))
    by_cases hn16 : n < 16
    · have hltz : ¬ (16 ≤ (n : Int)) := by omega
      have HE := Lib.hid (HEND.out (fun h => by have := h.1; rw [List.length_drop, HLL.out] at this; omega))
      go_wp2_with fail
      go_end0
      exact ⟨rfl, v, by rw [← HE.out]; exact HQR.out, by rw [← HE.out]; exact HV.out, HFR.out⟩
    · have hltz : 16 ≤ (n : Int) := by omega
      obtain rfl := hA (by omega)
      have hrow := HAL.out.keep (HFR.out.block gb HBN.out.1 HBN.out.2.1 HBN.out.2.1 HBN.out.2.1)
      have HROW := Lib.hid hrow
      have hb4 := row_CB hrow (o + 5) 4 (by rw [HLL.out]; omega) (by decide)
      have e4 : ((all.drop (o + 5)).take 4) = (((all.drop o).drop 5).take 4) := by rw [List.drop_drop]
      rw [e4] at hb4
      have h4l : (((all.drop o).drop 5).take 4).length = 4 := by rw [← e4, List.length_take, List.length_drop, HLL.out]; omega
      have h4r : ∀ u ∈ (((all.drop o).drop 5).take 4), 0 ≤ u ∧ u ≤ 255 := fun u hu => HRG.out u (List.mem_of_mem_drop (List.mem_of_mem_drop (List.mem_of_mem_take hu)))
      have hnm := num_range _ h4r
      have hle : (num (((all.drop o).drop 5).take 4)) = (lenOf (all.drop o) : Int) := by unfold lenOf; omega
      obtain ⟨k, hk⟩ : ∃ k, lenOf (all.drop o) = k := ⟨_, rfl⟩
      rw [hk] at hle
      rw [hle] at hnm
      have HNUM := Lib.hid (by have := number_calls (some ⟨gb, o + 5, none⟩) (c - 5) _ (by rw [h4l]; exact hb4) h4r; rw [h4l, hle] at this; exact this : Calls Tryd.prog 47 #[.slice (some ⟨gb, o + 5, none⟩) 4 (c - 5)] wr fun e w' => e = .returned (.int .u32 (k : Int)) ∧ w' = wr)
      have HK := Lib.hid hk
      have q0 : ¬ (c - 5 = 0) := by omega
      have q1 : (k : Int) ≤ 4294967295 := hnm.2
      have q2 : 16 ≤ n := by omega
      have q3 : 16 ≤ c := by omega
      clear hrow hb4 e4 h4l h4r hnm hle hk hA
      go_upto_region 2 with (go_at_call 47; refine HNUM.out.mono ?_; rintro e w' ⟨rfl, rfl⟩)
      have HNE := Lib.hid (fun w' => need_calls k (by omega) w')
      obtain ⟨nd, hnd⟩ : ∃ nd, need k = nd := ⟨_, rfl⟩
      have hnd1 := Lib.hid (show nd = 1 + (k + 15) / 16 by rw [← hnd]; rfl)
      have HND := Lib.hid hnd
      rw [hnd] at HNE
      clear hnd
      by_cases hk1 : 16384 < (k : Int)
      · have HE := Lib.hid (HEND.out (fun h => by have := h.2.1; rw [HK.out] at this; omega))
        go_wp2_with (go_at_call 34; refine (HNE.out _).mono ?_; rintro e w' ⟨rfl, rfl⟩)
        ((try simp only [Exit.inBlock, Exit.then]); refine bodyPost_ret (results_none rfl _ _ _) rfl ?_)
        exact ⟨rfl, v, by rw [← HE.out]; exact HQR.out, by rw [← HE.out]; exact HV.out, HFR.out⟩
      have hnd2 : nd ≤ 1026 := by have := hnd1.out; omega
      have q5 : (nd : Int) ≤ 1026 := by omega
      by_cases hk2 : (n : Int) < (nd : Int) * 16
      · have HE := Lib.hid (HEND.out (fun h => by have := h.2.2.1; rw [HK.out, HND.out, List.length_drop, HLL.out] at this; omega))
        go_wp2_with (go_at_call 34; refine (HNE.out _).mono ?_; rintro e w' ⟨rfl, rfl⟩)
        ((try simp only [Exit.inBlock, Exit.then]); refine bodyPost_ret (results_none rfl _ _ _) rfl ?_)
        exact ⟨rfl, v, by rw [← HE.out]; exact HQR.out, by rw [← HE.out]; exact HV.out, HFR.out⟩
      have q6 : (k : Int) ≤ 16384 := by omega
      have q7 : 16 + k ≤ n := by have := hnd1.out; omega
      have q9 : 16 + k - 16 = k := by omega
      have q8 : 16 + (k : Int) ≤ (n : Int) := by omega
      obtain ⟨A7, hA7⟩ : ∃ A7 : Option Addr, (if c = 16 then some ⟨gb, o, none⟩ else some ⟨gb, o + 16, none⟩) = A7 := ⟨_, rfl⟩
      have HA7 := Lib.hid hA7
      go_upto_region 4 with (go_at_call 34; refine (HNE.out _).mono ?_; rintro e w' ⟨rfl, rfl⟩)
      have hR := HV.out
      obtain ⟨LA, lc, rfl, hlc, _⟩ := Kd.R_reads hR
      obtain ⟨ll, hll⟩ : ∃ ll, l.length = ll := ⟨_, rfl⟩
      rw [hll] at hlc
      have hbh := HQR.out
      rw [hll] at hbh
      obtain ⟨c0, c1, c2, c3⟩ := cells4 hbh
      have hDR := (show Below w'.heap.size w' w'.drew from ⟨rfl, rfl, rfl, Nat.le_refl _, fun _ _ => rfl⟩)
      have HDR := Lib.hid hDR
      have c2d : w'.drew.cell? ⟨q, 2, none⟩ = some (.slice LA ll lc) := c2
      have hrb : (recOf (all.drop o)).length = k := by unfold recOf; rw [HK.out, List.length_take, List.length_drop, List.length_drop, HLL.out]; omega
      have hrr : ∀ u ∈ recOf (all.drop o), 0 ≤ u ∧ u ≤ 255 := fun u hu => HRG.out u (List.mem_of_mem_drop (List.mem_of_mem_drop (List.mem_of_mem_take hu)))
      have hcr : CB w' A7 (recOf (all.drop o)).length (recOf (all.drop o)) := by
        rcases Nat.eq_zero_or_pos k with h0 | h0
        · rw [List.eq_nil_of_length_eq_zero (hrb.trans h0)]
          exact ⟨rfl, by simp, fun h => absurd h (Nat.lt_irrefl 0)⟩
        · have e : A7 = some ⟨gb, o + 16, none⟩ := by rw [← HA7.out, if_neg (by omega)]
          rw [hrb, e]
          have := row_CB HROW.out (o + 16) k (by rw [HLL.out]; omega) (by omega)
          unfold recOf
          rw [List.drop_drop, HK.out]
          exact this
      have HCR := Lib.hid hcr
      have HHD := Lib.hid (fun w (hw : Below w'.heap.size w' w) => (by have := head_calls (c := c - 16) ll (by omega) (recOf (all.drop o)) (Kd.C_below hcr hw) hrr (by rw [hrb]; omega); rw [hrb] at this; exact this : Calls Tryd.prog 48 #[.int .i64 (ll : Int), .slice A7 k (c - 16)] w fun e w1 => ∃ g, e = .returned (.slice (some ⟨g, 0, none⟩) 16 16) ∧ w.heap.size ≤ g ∧ Row w1 g 16 (hd ll (recOf (all.drop o))) ∧ Below w.heap.size w w1))
      have HEQ := Lib.hid (fun w gh (hw : Below w'.heap.size w' w) (hrow : Row w gh 16 (hd ll (recOf (all.drop o)))) => equal_calls (c := c) (row_below HROW.out hw) o (by rw [HLL.out]; omega) HRG.out hrow rfl (hd_range _ _))
      have HRB := Lib.hid hrb
      have HRR := Lib.hid hrr
      have HLLN := Lib.hid hll
      clear hR hbh hDR hrb hrr hcr hll hA7
      obtain ⟨be, hbe⟩ : ∃ be, decide ((all.drop o).take 16 = hd ll (recOf (all.drop o))) = be := ⟨_, rfl⟩
      rw [hbe] at HEQ
      have HBE := Lib.hid hbe
      clear hbe
      go_region_held (fun w1 => w1.cell? ⟨q, 2, none⟩ = some (.slice LA ll lc) ∧ Hid (Below w'.heap.size w' w1))
        (first | with_reducible exact ⟨c2d, HDR⟩ | (go_split_ands; with_reducible exact ⟨cell_keep0 hb (by assumption), Lib.hid (below_step (Hid.out (by assumption)) hb)⟩) | assumption | (go_split_ands; with_reducible exact ⟨by assumption, by assumption⟩))
        (first
          | (go_at_call 48; go_split_ands; (with_reducible refine (HHD.out _ (Hid.out (by assumption))).mono ?_); rintro e w2 ⟨gh, rfl, hgh, r2, hb⟩; have HR2 := Lib.hid r2)
          | (go_at_call 25; go_split_ands; (with_reducible refine (HEQ.out _ _ (Hid.out (by assumption)) HR2.out).mono ?_); rintro e w3 ⟨rfl, rfl⟩))
      all_goals (
        go_split_ands
        have HBW := Lib.hid (Hid.out (show Hid (Below w'.heap.size w' w3) by assumption))
        cases be with
        | false =>
          have HE := Lib.hid (HEND.out (fun h => by have := h.2.2.2; rw [HLLN.out] at this; have h2 := HBE.out; rw [decide_eq_true this] at h2; cases h2))
          go_wp2_with fail
          ((try simp only [Exit.inBlock, Exit.then]); refine bodyPost_ret (results_none rfl _ _ _) rfl ?_)
          exact ⟨rfl, _, by rw [← HE.out]; exact blk_below HQR.out HBW.out, by rw [← HE.out]; exact Kd.R_below HV.out HBW.out, HFR.out.below HBW.out⟩
        | true =>
          go_upto_region 5 with (fail)
          have hQ3 := blk_below HQR.out HBW.out
          have HQ3 := Lib.hid hQ3
          have HV3 := Lib.hid (Kd.R_below HV.out HBW.out)
          have HF3 := Lib.hid (HFR.out.below HBW.out)
          obtain ⟨d0, d1, d2, d3⟩ := cells4 hQ3
          have hfz : w3.frozen? ⟨q, 2, none⟩ = false := blk_frozen hQ3 2
          have HC3 := Lib.hid (Kd.C_below HCR.out HBW.out)
          have HIS := Lib.hid (of_decide_eq_true HBE.out)
          have hne := own_ne HV3.out hQ3 (by decide)
          refine scan_app (B := W.heap.size) (ok := fun _ => True) (l := l) (x := recOf (all.drop o)) (Nat.le_of_ble_eq_true rfl) rfl rfl d2 hfz hne HV3.out HF3.out.size (by omega) (by rw [HRB.out]; omega) HRB.out (by have := HC3.out; rw [HRB.out] at this; exact this) (fun _ _ => trivial) ?_
          intro u38 u39 u40 u41 u42 u43 u44 u45 u46 u47 u48 v1 w5 r5 hg5 ho5
          obtain ⟨b6, r6, k6, z6⟩ := app_after hQ3 HV3.out hg5 r5
          have hF6 : Fr W (w5.setCell ⟨q, 2, none⟩ v1) q q q := ⟨Nat.le_trans HF3.out.size z6, fun i hi n1 _ _ => (k6 i (Nat.lt_of_lt_of_le hi HF3.out.size) n1 (fun e => by have := ((Kd.R_bound HV3.out).1 i e.symm).2.1; omega)).trans (HF3.out.block i hi n1 n1 n1), hg5.os.trans HF3.out.os, hg5.tape.trans HF3.out.tape, hg5.output.trans HF3.out.output⟩
          have HQ6 := Lib.hid b6
          have HV6 := Lib.hid r6
          have HF6 := Lib.hid hF6
          clear hQ3 d0 d1 d2 d3 hfz hne b6 r6 k6 z6 hF6 r5 hg5 ho5
          generalize w5.setCell ⟨q, 2, none⟩ v1 = w6 at HQ6 HV6 HF6 ⊢
          simp only [puts, Act.put, List.setIfInBounds_toArray, List.set_cons_zero, List.set_cons_succ]
          go_upto_region 6 with (fail)
          obtain ⟨e0, e1, e2, e3⟩ := cells4 HQ6.out
          have fz3 : w6.frozen? ⟨q, 3, none⟩ = false := blk_frozen HQ6.out 3
          have r0 : IntKind.i64.wrap ((t : Int) + (nd : Int)) = (t : Int) + (nd : Int) := IntWalk.i64_in _ (by omega)
          go_still_tail 9, (by kernel_rfl)
          still_call (HNE.out _)
          repeat still_step
          refine wpStill_nil ?_
          change wpList _ _ _ _ _ w6.drew
          have e3d : w6.drew.cell? ⟨q, 3, none⟩ = some (.int .i64 (t : Int)) := e3
          have fz3d : w6.drew.frozen? ⟨q, 3, none⟩ = false := fz3
          obtain ⟨k7, r7⟩ := log_put3 HQ6.out HV6.out ((t : Int) + (nd : Int)) (t + nd) (by omega)
          have HQ7 := Lib.hid k7
          have HV7 := Lib.hid r7
          have HF7 := Lib.hid ((HF6.out.set ⟨q, 3, none⟩ (.inl rfl) (.int .i64 ((t : Int) + (nd : Int)))).below (below_drew (Below.refl _ _)))
          clear k7 r7 e0 e1 e2 e3
          go_upto_region 7 with (fail)
          generalize (w6.setCell ⟨q, 3, none⟩ (.int .i64 ((t : Int) + (nd : Int)))).drew = w7 at HQ7 HV7 HF7 ⊢
          have HNX := Lib.hid (show ∃ f', f = f' + 1 ∧ n - nd * 16 < 16 * f' ∧ scan f' (l ++ [recOf (all.drop o)]) (t + nd) (all.drop (o + nd * 16)) = F from (by
            cases f with
            | zero => exact absurd hnf (by omega)
            | succ f' =>
              refine ⟨f', rfl, by have := hnd1.out; omega, ?_⟩
              have hs := HS.out
              have hir : isRec l.length (all.drop o) := ⟨by rw [List.length_drop, HLL.out]; omega, by rw [HK.out]; omega, by rw [HK.out, HND.out, List.length_drop, HLL.out]; omega, by rw [HLLN.out]; exact HIS.out⟩
              rw [scan, if_pos hir, HK.out, HND.out, List.drop_drop] at hs
              exact hs))
          have s0 : 0 ≤ (nd : Int) * 16 := by omega
          have s1 : (nd : Int) * 16 ≤ (n : Int) := by omega
          have s2 : (n : Int) ≤ (c : Int) := by omega
          have s3 : ((nd : Int) * 16).toNat = nd * 16 := by omega
          have s4 : (nd : Int) * 16 ≤ (c : Int) := by omega
          have s5 : IntKind.i64.wrap ((nd : Int) * 16) = (nd : Int) * 16 := IntWalk.i64_in _ (by omega)
          have HNC := Lib.hid (show nd * 16 ≤ n ∧ n ≤ c by omega)
          go_wp2_with (go_at_call 34; refine (HNE.out _).mono ?_; rintro e w' ⟨rfl, rfl⟩)
          all_goals (
            obtain ⟨f', hf', hn', hsc⟩ := HNX.out
            have hnc := HNC.out
            have hnd1' := hnd1.out
            have HLL1 : (l ++ [recOf (all.drop o)]).length ≤ t + nd := by rw [List.length_append]; show l.length + 1 ≤ t + nd; omega
            go_roundg f'
            case measure => omega
            case rel =>
              first
              | exact ⟨f', o + nd * 16, n - nd * 16, 0, t + nd, _, _, l ++ [recOf (all.drop o)], Nat.le_refl _, hn', by omega, by omega, by omega, by omega, rfl, fun hpos => absurd hpos (by omega), HLL1, Lib.hid hsc, HQ7, HV7, HF7⟩
              | exact ⟨f', o + nd * 16, n - nd * 16, c - nd * 16, t + nd, _, _, l ++ [recOf (all.drop o)], Nat.le_refl _, hn', by omega, by omega, by omega, by omega, rfl, fun hpos => rfl, HLL1, Lib.hid hsc, HQ7, HV7, HF7⟩))
end
end Go.Proofs.YtnobhjpobnmiaaaDoor.Wl
