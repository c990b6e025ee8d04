/- A disk in memory: the walks of Sync, Loose. -/
import Derived.Test.YtnobhjpobnmiaaaDoorSk4
namespace Go.Proofs.YtnobhjpobnmiaaaDoor.Sk
open Go Go.RowKit Go.Maps Go.Proofs Go.Proofs.YtnobhjpobnmiaaaDoorW.PrintWords Go.Proofs.YtnobhjpobnmiaaaDoorW.PrintLast Go.Proofs.YtnobhjpobnmiaaaDoorW.PrintMore
set_option linter.unusedVariables false
set_option linter.unusedSimpArgs false

section
variable {W W' : World} {p g cap m : Nat} {s t : D}
theorem Fr.keep3 {w w' : World} (h : w.mapTurned w' m) (k : Nat) (hk : k < w.heap.size) (hm : k ≠ m) : w'.heap[k]? = w.heap[k]? := h.grown.block k hk (fun e => by cases e; exact hm rfl)
/-- the map is cleared -/
theorem sr_clear (h : SR W p g cap m s) (old' : By) : ∃ W', (∀ ty, (Builtin.clear_ #[53] ty #[.map (some m)]).run Tryd.prog W = .ok (.tuple #[]) W') ∧ SR W' p g cap m { s with old := old', wet := List.replicate s.wet.length false } ∧ Fr W W' p g m := by
  obtain ⟨n, D, hm, hn⟩ := h.map
  obtain ⟨W', h1, h2, h3⟩ := ow_clear hm old'
  have hne := h.ne
  have hlt := h.lt
  exact ⟨W', h1, ⟨(Fr.keep3 h3 p hlt.1 hne.2.1).trans h.blk, h.row.keep (Fr.keep3 h3 g hlt.2.1 hne.2.2), ⟨0, _, h2, by omega⟩, h.cap_⟩, Fr.turned h3⟩
set_option maxHeartbeats 1000000 in
set_option maxRecDepth 100000 in
theorem sync1_calls (h : SR W p g cap m s) {q0 : Nat} (hq : W.cell? ⟨q0, 0, none⟩ = some (.pointer (some ⟨p, 0, none⟩))) : Calls Tryd.prog 52 #[.pointer (some ⟨q0, 0, none⟩)] W fun e w' => e = .returned (.tuple #[]) ∧ SR w' p g cap m { s with old := s.b, wet := List.replicate s.wet.length false } ∧ Fr W w' p g m := by
  obtain ⟨h0, h1, h2, h3, h4⟩ := cells5 h.blk
  obtain ⟨W', hcl, hs, hf⟩ := sr_clear h s.b
  have HS := Lib.hid (And.intro hs hf)
  clear h h0 h2 h3 h4 hs hf
  go_enter Tryd.func52, Tryd.ntmps52
  go_wp2_with fail
  go_end0
  exact ⟨rfl, HS.out⟩
set_option maxHeartbeats 1000000 in
set_option maxRecDepth 100000 in
theorem sync_calls (h : SR W p g cap m s) (o : Ok s) (ha : s.acts ≤ 1000000000) : Calls Tryd.prog 33 #[.pointer (some ⟨p, 0, none⟩)] W fun e w' => e = .returned (.int .i64 s.sync.2) ∧ SR w' p g cap m s.sync.1 ∧ Fr W w' p g m := by
  have hb := h.below (below_alloc (Below.refl _ _) (.cells #[.pointer (some ⟨p, 0, none⟩)] 24))
  have hf0 : Fr W (W.alloc (.cells #[.pointer (some ⟨p, 0, none⟩)] 24)) p g m := Fr.of_below (below_alloc (Below.refl _ _) _)
  have hlt := h.lt
  have hcell : (W.alloc (.cells #[.pointer (some ⟨p, 0, none⟩)] 24)).heap[W.heap.size]? = some (.cells #[.pointer (some ⟨p, 0, none⟩)] 24 (0, 0)) := blk_new W _
  cases hoff : s.off with
  | true =>
    have e : s.sync = ({ s with down := true }, 31) := by unfold D.sync; rw [if_pos hoff]
    rw [e]
    have HC := Lib.hid (act_off hb hoff (.func (.func 52) #[] #[.pointer (some ⟨W.heap.size, 0, none⟩)]))
    have HF := Lib.hid hf0
    clear h hb hcell hlt hoff e hf0
    go_enter Tryd.func33, Tryd.ntmps33
    go_wp2_with (go_at_call 51; refine HC.out.mono ?_; rintro e w' ⟨rfl, h1, h2⟩)
    go_ret
    exact ⟨rfl, h1, HF.out.trans h2⟩
  | false =>
    have e : s.sync = ({ s.did with old := s.b, wet := List.replicate s.wet.length false }, 0) := by unfold D.sync; rw [if_neg (by rw [hoff]; decide)]
    rw [e]
    have HC := Lib.hid (act_sync hb o ha hoff W.heap.size (fun w' => SR w' p g cap m { s.did with old := s.b, wet := List.replicate s.wet.length false } ∧ Fr (W.alloc (.cells #[.pointer (some ⟨p, 0, none⟩)] 24)) w' p g m) (fun w hw hf => by
      have hc : w.cell? ⟨W.heap.size, 0, none⟩ = some (.pointer (some ⟨p, 0, none⟩)) := by
        have := (hf.block W.heap.size (by show _ < (W.heap.push _).size; rw [Array.size_push]; omega) (by omega) (by omega) (by omega)).trans hcell
        exact (blk_cell this 0).trans rfl
      exact (sync1_calls hw hc).mono fun e w2 ⟨k1, k2, k3⟩ => ⟨k1, k2, hf.trans k3⟩))
    have HF := Lib.hid hf0
    clear h hb hcell hlt hoff e o ha hf0
    go_enter Tryd.func33, Tryd.ntmps33
    go_wp2_with (go_at_call 51; refine HC.out.mono ?_; rintro e w' ⟨rfl, h1, h2⟩)
    go_ret
    exact ⟨rfl, h1, HF.out.trans h2⟩
set_option maxHeartbeats 1000000 in
set_option maxRecDepth 100000 in
theorem loose_calls (h : SR W p g cap m s) (o : Ok s) : Calls Tryd.prog 38 #[.pointer (some ⟨p, 0, none⟩)] W fun e w' => ∃ v, e = .returned v ∧ Kd.R (Kd.int .i64) 3 w' W.heap.size (fun _ => True) v (looseI s.wet) ∧ Below W.heap.size W w' := by
  obtain ⟨h0, h1, h2, h3, h4⟩ := cells5 h.blk
  obtain ⟨n, D, hm, hn⟩ := h.map
  have hsz : Maps.size D ≤ 4096 := by rw [hm.sz]; exact Nat.le_trans (cntH_le _ _) o.n2
  have hm1 := hm.keep (W' := W.alloc (.cells #[.map (some m)] 53)) ((below_alloc (Below.refl W.heap.size W) (.cells #[.map (some m)] 53)).block m hm.own.lt)
  have HS := Lib.hid (Tryd.sorted_calls W.heap.size m n D pElem (W.alloc (.cells #[.map (some m)] 53)) (by show _ < (W.heap.push _).size; rw [Array.size_push]; omega) ((blk_cell (blk_new W _) 0).trans rfl) hm1.own (by unfold maxLen; omega) (by omega))
  have HK := Lib.hid (fun (ss : List Int) (hs : ss.Perm (intKeys D)) => keys_are hm hs)
  have HW := Lib.hid (fun W' => Tryd.keys_calls m W')
  clear h h0 h2 h3 h4 hm hm1 hsz hn o
  go_enter Tryd.func38, Tryd.ntmps38
  go_wp2_with (first | (go_at_call 54; refine (HW.out _).mono ?_; rintro e w' ⟨rfl, rfl⟩) | (go_at_call 53; refine HS.out.mono ?_; rintro e w' ⟨v, ss, rfl, hp, ho, _, hb⟩))
  go_ret
  have hk := HK.out _ hp
  rw [hk] at ho
  have hl : ss.length = (looseI s.wet).length := by rw [← hk, List.length_mergeSort]
  rw [hl] at ho
  refine ⟨v, rfl, Kd.R_of_own (enc := Value.int .i64) (h1 := fun _ => rfl) (own_less ho (by show _ ≤ (W.heap.push _).size; rw [Array.size_push]; omega)) (fun _ _ => trivial), ?_⟩
  exact (below_alloc (Below.refl W.heap.size W) _).trans (hb.mono (by show _ ≤ (W.heap.push _).size; rw [Array.size_push]; omega))
end
end Go.Proofs.YtnobhjpobnmiaaaDoor.Sk
