/- A disk in memory: the walks of what only reads it; Fuse. -/
import Derived.Test.YtnobhjpobnmiaaaDoorSk2
namespace Go.Proofs.YtnobhjpobnmiaaaDoor.Sk
open Go Go.RowKit Go.Maps Go.Proofs Go.Proofs.YtnobhjpobnmiaaaDoorW.PrintWords Go.Proofs.YtnobhjpobnmiaaaDoorW.PrintLast Go.Proofs.YtnobhjpobnmiaaaDoorW.PrintMore
set_option linter.unusedVariables false
set_option linter.unusedSimpArgs false

theorem cells5 {w : World} {g t : Nat} {v0 v1 v2 v3 v4 : Value} (h : w.heap[g]? = some (.cells #[v0, v1, v2, v3, v4] t (0, 0))) :
    w.cell? ⟨g, 0, none⟩ = some v0 ∧ w.cell? ⟨g, 1, none⟩ = some v1 ∧ w.cell? ⟨g, 2, none⟩ = some v2 ∧ w.cell? ⟨g, 3, none⟩ = some v3 ∧ w.cell? ⟨g, 4, none⟩ = some v4 :=
  ⟨(blk_cell h 0).trans rfl, (blk_cell h 1).trans rfl, (blk_cell h 2).trans rfl, (blk_cell h 3).trans rfl, (blk_cell h 4).trans rfl⟩
theorem add_at (g o j : Nat) : (⟨g, o, none⟩ : Addr).add j = ⟨g, o + j, none⟩ := by unfold Addr.add; split <;> simp_all
/-- bytes as they are read -/
abbrev CB (W : World) (A : Option Addr) (n : Nat) (l : By) : Prop := Kd.C (Kd.int .u8) W A n l
theorem enc_get (l : By) (j : Nat) : (enc l)[j]? = (l[j]?).map (Value.int .u8) := by unfold enc; rw [List.getElem?_map]
theorem Row.cell {W : World} {g cap : Nat} {b : By} (h : Row W g cap b) (j : Nat) (hj : j < b.length) : W.cell? ⟨g, j, none⟩ = some (.int .u8 b[j]) := by
  obtain ⟨ext, h1, _⟩ := h
  refine (blk_cell h1 j).trans ?_
  rw [List.getElem?_toArray, List.getElem?_append_left (by unfold enc; simpa using hj), enc_get, List.getElem?_eq_getElem hj]
  rfl
theorem Row.CB {W : World} {g cap : Nat} {b : By} (h : Row W g cap b) (hl : b.length ≤ 9223372036854775807) : CB W (some ⟨g, 0, none⟩) b.length b := by
  refine ⟨rfl, hl, fun _ => ⟨_, rfl, fun j p hj => ⟨[.int .u8 p], rfl, rfl, fun i u hu => ?_⟩⟩⟩
  have hjl := (List.getElem?_eq_some_iff.1 hj).1
  have e : i = 0 := by
    rcases i with _ | i
    · rfl
    · cases hu
  subst e
  cases hu
  have : (⟨g, 0, none⟩ : Addr).add (j * (Kd.int .u8).sz + 0) = ⟨g, j, none⟩ := by
    rw [add_at]; show (⟨g, 0 + (j * 1 + 0), none⟩ : Addr) = _; congr 1; omega
  rw [this, h.cell j hjl]
  rw [List.getElem?_eq_getElem hjl] at hj
  cases hj
  rfl
/-- bytes.Clone, at bytes that there are -/
theorem clone_row (A : Option Addr) (c : Nat) (l : By) (w : World) (h : CB w A l.length l) (h0 : 0 < l.length) (hl : l.length ≤ 140737488355328) :
    Calls Tryd.prog 23 #[.slice A l.length c] w fun e w' => ∃ g cap, e = .returned (.slice (some ⟨g, 0, none⟩) l.length cap) ∧ w.heap.size ≤ g ∧ Row w' g cap l ∧ cap ≤ 9223372036854775807 ∧ Below w.heap.size w w' := by
  obtain ⟨ad, rfl, _⟩ := h.2.2 h0
  refine (Tryd.bytes_Clone_at ad l.length c l w rfl hl (fun i hi => ?_)).mono ?_
  · obtain ⟨ad2, e, hc⟩ := Kd.at_int h (i : Int) (by omega) (by omega)
    cases e
    rw [Int.toNat_natCast] at hc
    rw [hc]
    congr 1
  · rintro e w' ⟨v', rfl, ho, _, hb⟩
    rcases ho.2 with ⟨_, hz⟩ | ⟨g, cap, cur, rfl, hg, hh, hc1, hc2, hc3, hc4⟩
    · omega
    · refine ⟨g, cap, rfl, hg, ⟨cur.toList.drop l.length, ?_, ?_⟩, hc2, hb⟩
      · rw [hh]
        congr 2
        rw [Nat.mul_one] at hc4
        change _ = enc l at hc4
        rw [← hc4, List.take_append_drop, Array.toArray_toList]
      · have hcl : cur.toList.length = cap := by simpa using hc3
        rw [List.length_drop, hcl]
        omega
section
variable {W : World} {p g cap m : Nat} {s : D}
set_option maxHeartbeats 1000000 in
set_option maxRecDepth 100000 in
theorem size_calls (h : SR W p g cap m s) : Calls Tryd.prog 24 #[.pointer (some ⟨p, 0, none⟩)] W fun e w' => e = .returned (.int .i64 (s.b.length : Int)) ∧ w' = W := by
  obtain ⟨h0, h1, h2, h3, h4⟩ := cells5 h.blk
  clear h h1 h2 h3 h4
  go_enter Tryd.func24, Tryd.ntmps24
  go_wp2_with fail
  go_ret
  exact ⟨rfl, rfl⟩
set_option maxHeartbeats 1000000 in
set_option maxRecDepth 100000 in
theorem acts_calls (h : SR W p g cap m s) : Calls Tryd.prog 18 #[.pointer (some ⟨p, 0, none⟩)] W fun e w' => e = .returned (.int .i64 (s.acts : Int)) ∧ w' = W := by
  obtain ⟨h0, h1, h2, h3, h4⟩ := cells5 h.blk
  clear h h1 h0 h3 h4
  go_enter Tryd.func18, Tryd.ntmps18
  go_wp2_with fail
  go_ret
  exact ⟨rfl, rfl⟩
set_option maxHeartbeats 1000000 in
set_option maxRecDepth 100000 in
theorem within_calls (h : SR W p g cap m s) (hl : s.b.length ≤ 65536) (a n : Int) : Calls Tryd.prog 39 #[.pointer (some ⟨p, 0, none⟩), .int .i64 a, .int .i64 n] W fun e w' => e = .returned (.bool (within s.b.length a n)) ∧ w' = W := by
  obtain ⟨h0, h1, h2, h3, h4⟩ := cells5 h.blk
  obtain ⟨N, hN⟩ : ∃ N, s.b.length = N := ⟨_, rfl⟩
  rw [hN] at h0 hl ⊢
  have HE := Lib.hid (show within N a n = (decide (0 ≤ a) && (decide (0 ≤ n) && (decide (a ≤ (N : Int)) && decide (n ≤ (N : Int) - a)))) from rfl)
  clear h h1 h2 h3 h4 hN
  by_cases c1 : a ≥ 0
  · have d1 : decide (0 ≤ a) = true := decide_eq_true c1
    by_cases c2 : n ≥ 0
    · have d2 : decide (0 ≤ n) = true := decide_eq_true c2
      by_cases c3 : a ≤ (N : Int)
      · have d3 : decide (a ≤ (N : Int)) = true := decide_eq_true c3
        go_enter Tryd.func39, Tryd.ntmps39
        go_wp2_with fail
        go_ret
        exact ⟨by rw [HE.out, d1, d2, d3]; rfl, rfl⟩
      · have d3 : decide (a ≤ (N : Int)) = false := decide_eq_false c3
        go_enter Tryd.func39, Tryd.ntmps39
        go_wp2_with fail
        go_ret
        exact ⟨by rw [HE.out, d1, d2, d3]; rfl, rfl⟩
    · have d2 : decide (0 ≤ n) = false := decide_eq_false c2
      go_enter Tryd.func39, Tryd.ntmps39
      go_wp2_with fail
      go_ret
      exact ⟨by rw [HE.out, d1, d2]; rfl, rfl⟩
  · have d1 : decide (0 ≤ a) = false := decide_eq_false c1
    go_enter Tryd.func39, Tryd.ntmps39
    go_wp2_with fail
    go_ret
    exact ⟨by rw [HE.out, d1]; rfl, rfl⟩
theorem fuse_put (h : SR W p g cap m s) (n : Int) : SR (W.setCell ⟨p, 3, none⟩ (.int .i64 (max n (-1)))) p g cap m (s.fused n) ∧ Fr W (W.setCell ⟨p, 3, none⟩ (.int .i64 (max n (-1)))) p g m := by
  have hne := h.ne
  obtain ⟨k, E, hm, hk⟩ := h.map
  have h1 : (W.setCell ⟨p, 3, none⟩ (.int .i64 (max n (-1)))).heap[p]? = some (.cells #[.slice (some ⟨g, 0, none⟩) s.b.length cap, .map (some m), .int .i64 (s.acts : Int), .int .i64 (max n (-1)), .bool s.down] 55 (0, 0)) := blk_put h.blk 3 _ rfl
  have h2 := Below.heap_setCell W ⟨p, 3, none⟩ (.int .i64 (max n (-1))) g (Ne.symm hne.1)
  have h3 := Below.heap_setCell W ⟨p, 3, none⟩ (.int .i64 (max n (-1))) m (Ne.symm hne.2.1)
  have hf := (Fr.refl W p g m).set ⟨p, 3, none⟩ (.inl rfl) (.int .i64 (max n (-1)))
  generalize W.setCell ⟨p, 3, none⟩ (.int .i64 (max n (-1))) = W' at h1 h2 h3 hf ⊢
  exact ⟨⟨h1, h.row.keep h2, ⟨k, E, hm.keep h3, hk⟩, h.cap_⟩, hf⟩
set_option maxHeartbeats 1000000 in
set_option maxRecDepth 100000 in
theorem fuse_calls (h : SR W p g cap m s) (n : Int) : Calls Tryd.prog 21 #[.pointer (some ⟨p, 0, none⟩), .int .i64 n] W fun e w' => e = .returned (.tuple #[]) ∧ SR w' p g cap m (s.fused n) ∧ Fr W w' p g m := by
  obtain ⟨h0, h1, h2, h3, h4⟩ := cells5 h.blk
  have f3 := blk_frozen h.blk 3
  have HH := Lib.hid h
  clear h h1 h0 h2 h4
  go_enter Tryd.func21, Tryd.ntmps21
  go_wp2_with fail
  go_end0
  exact ⟨rfl, fuse_put HH.out n⟩
end
end Go.Proofs.YtnobhjpobnmiaaaDoor.Sk
