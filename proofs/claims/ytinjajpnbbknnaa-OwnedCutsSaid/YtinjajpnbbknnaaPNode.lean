/- The walk of owned.parted at rows of api.Node. -/
import Derived.Test.YtinjajpnbbknnaaINode
import Derived.WalkLawsBesides
import Derived.Lib.Hide
import Derived.Deep.LoopGhost
namespace Go.Proofs.Ytinjajpnbbknnaa.PNode
open Go Go.RowKit Go.Proofs.Ytinjajpnbbknnaa.Q Go.Proofs.Ytinjajpnbbknnaa.INode Go.Proofs.YtinjajpnbbknnaaW.PrintWords Go.Proofs.YtinjajpnbbknnaaW.PrintLast Go.Proofs.YtinjajpnbbknnaaW.PrintMore
set_option linter.unusedVariables false

def Post (w : World) (a b : List S40) (e : Ending) (w' : World) : Prop := ∃ v u : Value, e = .returned (.tuple #[v, u]) ∧ Kd.R k40 40 w' w.heap.size (fun k => some k ≠ u.ownBlock) v a ∧ Kd.R k40 40 w' w.heap.size (fun k => some k ≠ v.ownBlock) u b ∧ Below w.heap.size w w'
set_option maxHeartbeats 4000000 in
set_option maxRecDepth 100000 in
theorem parted_calls (g : Nat) (lb : Array Value) (eg : ∀ args w, (callFunc g args).run Try.prog w = .ok (.enter g args) w) (p : S40 → Bool) (A : Option Addr) (c : Nat) (l : List S40) (w : World) (hp : PredB g lb p l w) (hr : Kd.C k40 w A l.length l) (hl : l.length ≤ 100000000000) :
    Calls Try.prog 41 #[.slice A l.length c, .func (.func g) #[] lb] w (Post w (l.filter p) (l.filter fun x => !p x)) := by
  have HR := Lib.hid hr
  have HP := Lib.hid hp
  clear hr hp
  obtain ⟨n, hn⟩ : ∃ n, l.length = n := ⟨_, rfl⟩
  have HN := Lib.hid hn
  rw [hn] at hl ⊢
  clear hn
  go_enter Try.func41, Try.ntmps41
  go_wp2_with fail
  go_loopg [6, 7, 12] n (fun gg s6 s7 s12 wr => ∃ i : Nat, i ≤ n ∧ n - i ≤ gg ∧ s12 = .int .i64 i ∧ Hid (Kd.R k40 40 wr w.heap.size (fun k => some k ≠ s7.ownBlock) s6 ((l.take i).filter p)) ∧ Hid (Kd.R k40 40 wr w.heap.size (fun k => some k ≠ s6.ownBlock) s7 ((l.take i).filter fun x => !p x)) ∧ Hid (Below w.heap.size w wr))
  case atStart => exact ⟨0, Nat.zero_le _, by omega, rfl, Kd.R_nil _ _ _ _ _, Kd.R_nil _ _ _ _ _, Below.refl _ w⟩
  case round =>
    obtain ⟨i, hi, hg, rfl, hV, hU, hB⟩ := hrel
    by_cases hlt : i < n
    · have hltz : (i : Int) < (n : Int) := by omega
      have hil : i < l.length := by have := HN.out; omega
      have hb := hB.out
      obtain ⟨ad, ea, hx0, hx1, hx2, hx3, hx4⟩ := at_T40 HR.out (i : Int) (by omega) (by omega)
      replace hx0 := (hb.cell (World.block_lt_of_cell? w _ hx0)).trans hx0
      replace hx1 := (hb.cell (World.block_lt_of_cell? w _ hx1)).trans hx1
      replace hx2 := (hb.cell (World.block_lt_of_cell? w _ hx2)).trans hx2
      replace hx3 := (hb.cell (World.block_lt_of_cell? w _ hx3)).trans hx3
      replace hx4 := (hb.cell (World.block_lt_of_cell? w _ hx4)).trans hx4
      simp only [Int.toNat_natCast] at hx0 hx1 hx2 hx3 hx4
      have HCALL := Lib.hid (HP.out (wr.alloc (.cells #[.string (rd_T40 l (i : Int)).f0, .string (rd_T40 l (i : Int)).f1, .int .i64 (rd_T40 l (i : Int)).f2, .int .i64 (rd_T40 l (i : Int)).f3, .int .i64 (rd_T40 l (i : Int)).f4] 40 (0, 0))) (rd_T40 l (i : Int)) (by rw [rd_is l i hil]; exact List.getElem_mem _) (below_alloc hb _))
      have htk : l.take (i + 1) = l.take i ++ [rd_T40 l (i : Int)] := by rw [rd_is l i hil, List.take_succ_eq_append_getElem hil]
      clear hb
      obtain ⟨x, hxx⟩ : ∃ x, rd_T40 l (i : Int) = x := ⟨_, rfl⟩
      rw [hxx] at hx0 hx1 hx2 hx3 hx4 HCALL htk
      clear hxx
      cases ea
      cases hq : p x with
      | true =>
        rw [hq] at HCALL
        have HT1 : Hid ((l.take (i + 1)).filter p = (l.take i).filter p ++ [x]) := by show _ = _; rw [htk, List.filter_append]; simp [hq]
        have HT2 : Hid ((l.take (i + 1)).filter (fun x => !p x) = (l.take i).filter (fun x => !p x)) := by show _ = _; rw [htk, List.filter_append]; simp [hq]
        clear hq htk
        go_wp2_with fail
        refine (HCALL.out).mono ?_
        rintro e w1 ⟨rfl, hb1⟩
        have HK := Lib.hid (show w1.heap[wr.heap.size]? = some (.cells #[.string x.f0, .string x.f1, .int .i64 x.f2, .int .i64 x.f3, .int .i64 x.f4] 40 (0, 0)) from blk_below (heap_alloc_new wr _) hb1)
        have HB1 := Lib.hid (below_step (below_alloc hB.out _) hb1)
        have HV1 := Lib.hid (Kd.R_below (Kd.R_alloc hV.out (.cells #[.string x.f0, .string x.f1, .int .i64 x.f2, .int .i64 x.f3, .int .i64 x.f4] 40 (0, 0))) hb1)
        have HU1 := Lib.hid (Kd.R_below (Kd.R_alloc hU.out (.cells #[.string x.f0, .string x.f1, .int .i64 x.f2, .int .i64 x.f3, .int .i64 x.f4] 40 (0, 0))) hb1)
        clear hb1 HCALL
        have q0 : w1.cell? ⟨wr.heap.size, 0, none⟩ = some (.string x.f0) := (blk_cell HK.out 0).trans rfl
        have q1 : w1.cell? ⟨wr.heap.size, 1, none⟩ = some (.string x.f1) := (blk_cell HK.out 1).trans rfl
        have q2 : w1.cell? ⟨wr.heap.size, 2, none⟩ = some (.int .i64 x.f2) := (blk_cell HK.out 2).trans rfl
        have q3 : w1.cell? ⟨wr.heap.size, 3, none⟩ = some (.int .i64 x.f3) := (blk_cell HK.out 3).trans rfl
        have q4 : w1.cell? ⟨wr.heap.size, 4, none⟩ = some (.int .i64 x.f4) := (blk_cell HK.out 4).trans rfl
        have hbase : w.heap.size ≤ w1.heap.size := HB1.out.size
        have hlen : (((l.take i).filter p).length + 1) * 56 ≤ 140737488355328 := by
          have h1 : ((l.take i).filter p).length ≤ (l.take i).length := List.length_filter_le _ _
          rw [List.length_take] at h1
          have := HN.out
          omega
        have HLEN := Lib.hid hlen
        clear hlen
        go_wp2_with (at_builtin; refine Kd.R_append k40 (w0 := w) w.heap.size rfl (.tmp 19) (.tmp 21) 31 40 (.agg #[.string ⟨#[]⟩, .string ⟨#[]⟩, .int .i64 0, .int .i64 0, .int .i64 0]) 56 rfl Try.underlying31 info40 rfl (by decide) (by decide) u6 (((l.take i).filter p)) x [.string x.f0, .string x.f1, .int .i64 x.f2, .int .i64 x.f3, .int .i64 x.f4] (fun k => some k ≠ u7.ownBlock) (fun _ => False) rfl rfl (k40_mkM _ _ _ x) (fun _ hk => hk.elim) ?aF HV1.out HB1.out hbase HLEN.out ?_; (case aF => exact fun k hk e => by obtain ⟨inner, hown⟩ := Kd.R_own HU1.out; have := own_lt hown _ e.symm; omega); intro v2 w2 ho2 hb2 hg2 hat2; have HO2 := Lib.hid ho2; have HB2 := Lib.hid hb2; have HU2 := Lib.hid (Kd.R_after (ok := fun _ => True) (Kd.R_mono HU1.out (fun k hk => ⟨trivial, hk⟩)) hg2 hat2); clear ho2 hb2 hg2 hat2)
        go_roundg (n - (i + 1))
        case measure => omega
        case rel => exact ⟨i + 1, by omega, by omega, by go_num, Lib.hid (by rw [HT1.out]; exact HO2.out), Lib.hid (by rw [HT2.out]; exact Kd.R_mono HU2.out (fun k hk => hk.2)), HB2⟩
      | false =>
        rw [hq] at HCALL
        have HT1 : Hid ((l.take (i + 1)).filter p = (l.take i).filter p) := by show _ = _; rw [htk, List.filter_append]; simp [hq]
        have HT2 : Hid ((l.take (i + 1)).filter (fun x => !p x) = (l.take i).filter (fun x => !p x) ++ [x]) := by show _ = _; rw [htk, List.filter_append]; simp [hq]
        clear hq htk
        go_wp2_with fail
        refine (HCALL.out).mono ?_
        rintro e w1 ⟨rfl, hb1⟩
        have HK := Lib.hid (show w1.heap[wr.heap.size]? = some (.cells #[.string x.f0, .string x.f1, .int .i64 x.f2, .int .i64 x.f3, .int .i64 x.f4] 40 (0, 0)) from blk_below (heap_alloc_new wr _) hb1)
        have HB1 := Lib.hid (below_step (below_alloc hB.out _) hb1)
        have HV1 := Lib.hid (Kd.R_below (Kd.R_alloc hV.out (.cells #[.string x.f0, .string x.f1, .int .i64 x.f2, .int .i64 x.f3, .int .i64 x.f4] 40 (0, 0))) hb1)
        have HU1 := Lib.hid (Kd.R_below (Kd.R_alloc hU.out (.cells #[.string x.f0, .string x.f1, .int .i64 x.f2, .int .i64 x.f3, .int .i64 x.f4] 40 (0, 0))) hb1)
        clear hb1 HCALL
        have q0 : w1.cell? ⟨wr.heap.size, 0, none⟩ = some (.string x.f0) := (blk_cell HK.out 0).trans rfl
        have q1 : w1.cell? ⟨wr.heap.size, 1, none⟩ = some (.string x.f1) := (blk_cell HK.out 1).trans rfl
        have q2 : w1.cell? ⟨wr.heap.size, 2, none⟩ = some (.int .i64 x.f2) := (blk_cell HK.out 2).trans rfl
        have q3 : w1.cell? ⟨wr.heap.size, 3, none⟩ = some (.int .i64 x.f3) := (blk_cell HK.out 3).trans rfl
        have q4 : w1.cell? ⟨wr.heap.size, 4, none⟩ = some (.int .i64 x.f4) := (blk_cell HK.out 4).trans rfl
        have hbase : w.heap.size ≤ w1.heap.size := HB1.out.size
        have hlen : (((l.take i).filter (fun x => !p x)).length + 1) * 56 ≤ 140737488355328 := by
          have h1 : ((l.take i).filter (fun x => !p x)).length ≤ (l.take i).length := List.length_filter_le _ _
          rw [List.length_take] at h1
          have := HN.out
          omega
        have HLEN := Lib.hid hlen
        clear hlen
        go_wp2_with (at_builtin; refine Kd.R_append k40 (w0 := w) w.heap.size rfl (.tmp 23) (.tmp 25) 31 40 (.agg #[.string ⟨#[]⟩, .string ⟨#[]⟩, .int .i64 0, .int .i64 0, .int .i64 0]) 56 rfl Try.underlying31 info40 rfl (by decide) (by decide) u7 (((l.take i).filter (fun x => !p x))) x [.string x.f0, .string x.f1, .int .i64 x.f2, .int .i64 x.f3, .int .i64 x.f4] (fun k => some k ≠ u6.ownBlock) (fun _ => False) rfl rfl (k40_mkM _ _ _ x) (fun _ hk => hk.elim) ?aF HU1.out HB1.out hbase HLEN.out ?_; (case aF => exact fun k hk e => by obtain ⟨inner, hown⟩ := Kd.R_own HV1.out; have := own_lt hown _ e.symm; omega); intro v2 w2 ho2 hb2 hg2 hat2; have HO2 := Lib.hid ho2; have HB2 := Lib.hid hb2; have HU2 := Lib.hid (Kd.R_after (ok := fun _ => True) (Kd.R_mono HV1.out (fun k hk => ⟨trivial, hk⟩)) hg2 hat2); clear ho2 hb2 hg2 hat2)
        go_roundg (n - (i + 1))
        case measure => omega
        case rel => exact ⟨i + 1, by omega, by omega, by go_num, Lib.hid (by rw [HT1.out]; exact Kd.R_mono HU2.out (fun k hk => hk.2)), Lib.hid (by rw [HT2.out]; exact HO2.out), HB2⟩
    · have hltz : ¬ (i : Int) < (n : Int) := by omega
      have : i = n := by omega
      subst this
      go_wp2_with fail
      go_ret2
      exact ⟨_, _, rfl, by have := hV.out; rwa [List.take_of_length_le (by have := HN.out; omega)] at this, by have := hU.out; rwa [List.take_of_length_le (by have := HN.out; omega)] at this, hB.out⟩
end Go.Proofs.Ytinjajpnbbknnaa.PNode
