/- The walk of owned.parted at rows of api.Turn. -/
import Derived.Test.YtinjajpnbbknnaaITurn
import Derived.WalkLawsBesides
import Derived.Lib.Hide
import Derived.Deep.LoopGhost
namespace Go.Proofs.Ytinjajpnbbknnaa.PTurn
open Go Go.RowKit Go.Proofs.Ytinjajpnbbknnaa.Q Go.Proofs.Ytinjajpnbbknnaa.ITurn Go.Proofs.YtinjajpnbbknnaaW.PrintWords Go.Proofs.YtinjajpnbbknnaaW.PrintLast Go.Proofs.YtinjajpnbbknnaaW.PrintMore
set_option linter.unusedVariables false

def Post (w : World) (a b : List S59) (e : Ending) (w' : World) : Prop := ∃ v u : Value, e = .returned (.tuple #[v, u]) ∧ Kd.R k59 59 w' w.heap.size (fun k => some k ≠ u.ownBlock) v a ∧ Kd.R k59 59 w' w.heap.size (fun k => some k ≠ v.ownBlock) u b ∧ Below w.heap.size w w'
set_option maxHeartbeats 4000000 in
set_option maxRecDepth 100000 in
theorem parted_calls (g : Nat) (lb : Array Value) (eg : ∀ args w, (callFunc g args).run Try.prog w = .ok (.enter g args) w) (p : S59 → Bool) (A : Option Addr) (c : Nat) (l : List S59) (w : World) (hp : PredB g lb p l w) (hr : Kd.C k59 w A l.length l) (hl : l.length ≤ 100000000000) :
    Calls Try.prog 44 #[.slice A l.length c, .func (.func g) #[] lb] w (Post w (l.filter p) (l.filter fun x => !p x)) := by
  have HR := Lib.hid hr
  have HP := Lib.hid hp
  clear hr hp
  obtain ⟨n, hn⟩ : ∃ n, l.length = n := ⟨_, rfl⟩
  have HN := Lib.hid hn
  rw [hn] at hl ⊢
  clear hn
  go_enter Try.func44, Try.ntmps44
  go_wp2_with fail
  go_loopg [6, 7, 12] n (fun gg s6 s7 s12 wr => ∃ i : Nat, i ≤ n ∧ n - i ≤ gg ∧ s12 = .int .i64 i ∧ Hid (Kd.R k59 59 wr w.heap.size (fun k => some k ≠ s7.ownBlock) s6 ((l.take i).filter p)) ∧ Hid (Kd.R k59 59 wr w.heap.size (fun k => some k ≠ s6.ownBlock) s7 ((l.take i).filter fun x => !p x)) ∧ Hid (Below w.heap.size w wr))
  case atStart => exact ⟨0, Nat.zero_le _, by omega, rfl, Kd.R_nil _ _ _ _ _, Kd.R_nil _ _ _ _ _, Below.refl _ w⟩
  case round =>
    obtain ⟨i, hi, hg, rfl, hV, hU, hB⟩ := hrel
    by_cases hlt : i < n
    · have hltz : (i : Int) < (n : Int) := by omega
      have hil : i < l.length := by have := HN.out; omega
      have hb := hB.out
      obtain ⟨ad, ea, hx0, hx1⟩ := at_T59 HR.out (i : Int) (by omega) (by omega)
      replace hx0 := (hb.cell (World.block_lt_of_cell? w _ hx0)).trans hx0
      replace hx1 := (hb.cell (World.block_lt_of_cell? w _ hx1)).trans hx1
      simp only [Int.toNat_natCast] at hx0 hx1
      have HCALL := Lib.hid (HP.out (wr.alloc (.cells #[.string (rd_T59 l (i : Int)).f0, .int .i64 (rd_T59 l (i : Int)).f1] 59 (0, 0))) (rd_T59 l (i : Int)) (by rw [rd_is l i hil]; exact List.getElem_mem _) (below_alloc hb _))
      have htk : l.take (i + 1) = l.take i ++ [rd_T59 l (i : Int)] := by rw [rd_is l i hil, List.take_succ_eq_append_getElem hil]
      clear hb
      obtain ⟨x, hxx⟩ : ∃ x, rd_T59 l (i : Int) = x := ⟨_, rfl⟩
      rw [hxx] at hx0 hx1 HCALL htk
      clear hxx
      cases ea
      cases hq : p x with
      | true =>
        rw [hq] at HCALL
        have HT1 : Hid ((l.take (i + 1)).filter p = (l.take i).filter p ++ [x]) := by show _ = _; rw [htk, List.filter_append]; simp [hq]
        have HT2 : Hid ((l.take (i + 1)).filter (fun x => !p x) = (l.take i).filter (fun x => !p x)) := by show _ = _; rw [htk, List.filter_append]; simp [hq]
        clear hq htk
        go_wp2_with fail
        refine (HCALL.out).mono ?_
        rintro e w1 ⟨rfl, hb1⟩
        have HK := Lib.hid (show w1.heap[wr.heap.size]? = some (.cells #[.string x.f0, .int .i64 x.f1] 59 (0, 0)) from blk_below (heap_alloc_new wr _) hb1)
        have HB1 := Lib.hid (below_step (below_alloc hB.out _) hb1)
        have HV1 := Lib.hid (Kd.R_below (Kd.R_alloc hV.out (.cells #[.string x.f0, .int .i64 x.f1] 59 (0, 0))) hb1)
        have HU1 := Lib.hid (Kd.R_below (Kd.R_alloc hU.out (.cells #[.string x.f0, .int .i64 x.f1] 59 (0, 0))) hb1)
        clear hb1 HCALL
        have q0 : w1.cell? ⟨wr.heap.size, 0, none⟩ = some (.string x.f0) := (blk_cell HK.out 0).trans rfl
        have q1 : w1.cell? ⟨wr.heap.size, 1, none⟩ = some (.int .i64 x.f1) := (blk_cell HK.out 1).trans rfl
        have hbase : w.heap.size ≤ w1.heap.size := HB1.out.size
        have hlen : (((l.take i).filter p).length + 1) * 24 ≤ 140737488355328 := by
          have h1 : ((l.take i).filter p).length ≤ (l.take i).length := List.length_filter_le _ _
          rw [List.length_take] at h1
          have := HN.out
          omega
        have HLEN := Lib.hid hlen
        clear hlen
        go_wp2_with (at_builtin; refine Kd.R_append k59 (w0 := w) w.heap.size rfl (.tmp 19) (.tmp 21) 32 59 (.agg #[.string ⟨#[]⟩, .int .i64 0]) 24 rfl Try.underlying32 info59 rfl (by decide) (by decide) u6 (((l.take i).filter p)) x [.string x.f0, .int .i64 x.f1] (fun k => some k ≠ u7.ownBlock) (fun _ => False) rfl rfl (k59_mkM _ _ _ x) (fun _ hk => hk.elim) ?aF HV1.out HB1.out hbase HLEN.out ?_; (case aF => exact fun k hk e => by obtain ⟨inner, hown⟩ := Kd.R_own HU1.out; have := own_lt hown _ e.symm; omega); intro v2 w2 ho2 hb2 hg2 hat2; have HO2 := Lib.hid ho2; have HB2 := Lib.hid hb2; have HU2 := Lib.hid (Kd.R_after (ok := fun _ => True) (Kd.R_mono HU1.out (fun k hk => ⟨trivial, hk⟩)) hg2 hat2); clear ho2 hb2 hg2 hat2)
        go_roundg (n - (i + 1))
        case measure => omega
        case rel => exact ⟨i + 1, by omega, by omega, by go_num, Lib.hid (by rw [HT1.out]; exact HO2.out), Lib.hid (by rw [HT2.out]; exact Kd.R_mono HU2.out (fun k hk => hk.2)), HB2⟩
      | false =>
        rw [hq] at HCALL
        have HT1 : Hid ((l.take (i + 1)).filter p = (l.take i).filter p) := by show _ = _; rw [htk, List.filter_append]; simp [hq]
        have HT2 : Hid ((l.take (i + 1)).filter (fun x => !p x) = (l.take i).filter (fun x => !p x) ++ [x]) := by show _ = _; rw [htk, List.filter_append]; simp [hq]
        clear hq htk
        go_wp2_with fail
        refine (HCALL.out).mono ?_
        rintro e w1 ⟨rfl, hb1⟩
        have HK := Lib.hid (show w1.heap[wr.heap.size]? = some (.cells #[.string x.f0, .int .i64 x.f1] 59 (0, 0)) from blk_below (heap_alloc_new wr _) hb1)
        have HB1 := Lib.hid (below_step (below_alloc hB.out _) hb1)
        have HV1 := Lib.hid (Kd.R_below (Kd.R_alloc hV.out (.cells #[.string x.f0, .int .i64 x.f1] 59 (0, 0))) hb1)
        have HU1 := Lib.hid (Kd.R_below (Kd.R_alloc hU.out (.cells #[.string x.f0, .int .i64 x.f1] 59 (0, 0))) hb1)
        clear hb1 HCALL
        have q0 : w1.cell? ⟨wr.heap.size, 0, none⟩ = some (.string x.f0) := (blk_cell HK.out 0).trans rfl
        have q1 : w1.cell? ⟨wr.heap.size, 1, none⟩ = some (.int .i64 x.f1) := (blk_cell HK.out 1).trans rfl
        have hbase : w.heap.size ≤ w1.heap.size := HB1.out.size
        have hlen : (((l.take i).filter (fun x => !p x)).length + 1) * 24 ≤ 140737488355328 := by
          have h1 : ((l.take i).filter (fun x => !p x)).length ≤ (l.take i).length := List.length_filter_le _ _
          rw [List.length_take] at h1
          have := HN.out
          omega
        have HLEN := Lib.hid hlen
        clear hlen
        go_wp2_with (at_builtin; refine Kd.R_append k59 (w0 := w) w.heap.size rfl (.tmp 23) (.tmp 25) 32 59 (.agg #[.string ⟨#[]⟩, .int .i64 0]) 24 rfl Try.underlying32 info59 rfl (by decide) (by decide) u7 (((l.take i).filter (fun x => !p x))) x [.string x.f0, .int .i64 x.f1] (fun k => some k ≠ u6.ownBlock) (fun _ => False) rfl rfl (k59_mkM _ _ _ x) (fun _ hk => hk.elim) ?aF HU1.out HB1.out hbase HLEN.out ?_; (case aF => exact fun k hk e => by obtain ⟨inner, hown⟩ := Kd.R_own HV1.out; have := own_lt hown _ e.symm; omega); intro v2 w2 ho2 hb2 hg2 hat2; have HO2 := Lib.hid ho2; have HB2 := Lib.hid hb2; have HU2 := Lib.hid (Kd.R_after (ok := fun _ => True) (Kd.R_mono HV1.out (fun k hk => ⟨trivial, hk⟩)) hg2 hat2); clear ho2 hb2 hg2 hat2)
        go_roundg (n - (i + 1))
        case measure => omega
        case rel => exact ⟨i + 1, by omega, by omega, by go_num, Lib.hid (by rw [HT1.out]; exact Kd.R_mono HU2.out (fun k hk => hk.2)), Lib.hid (by rw [HT2.out]; exact HO2.out), HB2⟩
    · have hltz : ¬ (i : Int) < (n : Int) := by omega
      have : i = n := by omega
      subst this
      go_wp2_with fail
      go_ret2
      exact ⟨_, _, rfl, by have := hV.out; rwa [List.take_of_length_le (by have := HN.out; omega)] at this, by have := hU.out; rwa [List.take_of_length_le (by have := HN.out; omega)] at this, hB.out⟩
end Go.Proofs.Ytinjajpnbbknnaa.PTurn
