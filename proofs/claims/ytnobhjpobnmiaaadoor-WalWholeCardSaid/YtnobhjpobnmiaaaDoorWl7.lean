/- A log in memory; the walks of Room, Records. -/
import Derived.Test.YtnobhjpobnmiaaaDoorWl6
namespace Go.Proofs.YtnobhjpobnmiaaaDoor.Wl
open Go Go.RowKit Go.Maps Go.Proofs Go.Proofs.YtnobhjpobnmiaaaDoor.Sk Go.Proofs.YtnobhjpobnmiaaaDoorW.PrintWords Go.Proofs.YtnobhjpobnmiaaaDoorW.PrintLast Go.Proofs.YtnobhjpobnmiaaaDoorW.PrintMore
set_option linter.unusedVariables false
set_option linter.unusedSimpArgs false

abbrev kB : Kd By := Kd.slice 5 (Kd.int .u8)
/-- rows of bytes, of the call's own -/
abbrev RB (W : World) (base : Nat) (ok : Nat → Prop) (v : Value) (l : List By) : Prop := Kd.R kB 22 W base ok v l
theorem infoB : (Tryd.prog.info? 22).map (fun i => (i.zero, i.size, i.bytes)) = some (some (.slice none 0 0), 1, 24) := by kernel_rfl
/-- a log: its block q, where the disk, the area, the records, how many sectors are taken -/
structure LG (W : World) (q p g m area : Nat) (v : Value) (l : List By) (t : Nat) : Prop where
  blk : W.heap[q]? = some (.cells #[.pointer (some ⟨p, 0, none⟩), .int .i64 (area : Int), v, .int .i64 (t : Int)] 57 (0, 0))
  rows : RB W 0 (fun k => k ≠ g) v l
def roomN (h t : Nat) : Int := min (max ((h : Int) - t - 1) 0 * 16) 16384
section
variable {W W' w : World} {p g cap m q area t : Nat} {s : D} {v : Value} {l : List By}
theorem LG.below (h : LG W q p g m area v l t) (hb : Below W.heap.size W W') : LG W' q p g m area v l t := ⟨blk_below h.blk hb, Kd.R_below h.rows hb⟩
theorem LG.fr (h : LG W q p g m area v l t) (hs : SR W p g cap m s) (hf : Fr W W' p g m) : LG W' q p g m area v l t := by
  have hq := sr_ne hs h.blk (by decide) (by decide)
  obtain ⟨n, D, hm, _⟩ := hs.map
  obtain ⟨es, cl, hk⟩ := own_kind hm.own
  refine ⟨(hf.block q (blk_lt h.blk) hq.1 hq.2.1 hq.2.2).trans h.blk, Kd.R_mono (Kd.R_move (Kd.R_bound h.rows) (fun k hk1 => ?_)) (fun k hk => hk.1)⟩
  obtain ⟨h1, _, h3, ty, h4, cells, h5⟩ := hk1
  refine hf.block k h3 (fun e => ?_) h1 (fun e => ?_)
  · subst e
    rw [hs.blk] at h5
    have : 55 = ty := by injection h5 with h5; injection h5
    subst this
    exact absurd h4 (by decide)
  · subst e
    rw [h5] at hk
    cases hk
theorem cells4 {w : World} {g t : Nat} {v0 v1 v2 v3 : Value} (h : w.heap[g]? = some (.cells #[v0, v1, v2, v3] t (0, 0))) :
    w.cell? ⟨g, 0, none⟩ = some v0 ∧ w.cell? ⟨g, 1, none⟩ = some v1 ∧ w.cell? ⟨g, 2, none⟩ = some v2 ∧ w.cell? ⟨g, 3, none⟩ = some v3 :=
  ⟨(blk_cell h 0).trans rfl, (blk_cell h 1).trans rfl, (blk_cell h 2).trans rfl, (blk_cell h 3).trans rfl⟩
set_option maxHeartbeats 2000000 in
set_option maxRecDepth 100000 in
theorem room_calls (h : LG W q p g m area v l t) (hs : SR W p g cap m s) (o : Ok s) (ht : t ≤ 1000000) : Calls Tryd.prog 17 #[.pointer (some ⟨q, 0, none⟩)] W fun e w' => e = .returned (.int .i64 (roomN (half s.b.length) t)) ∧ Below W.heap.size W w' := by
  obtain ⟨c0, _, _, c3⟩ := cells4 h.blk
  have HH := Lib.hid (fun w (hw : Below W.heap.size W w) => half_calls (hs.below hw) o)
  have hl : half s.b.length ≤ 2048 := half_le (by have := o.bl; have := o.n2; omega)
  obtain ⟨k, hk⟩ : ∃ k, half s.b.length = k := ⟨_, rfl⟩
  rw [hk] at HH hl ⊢
  have q1 : IntKind.i64.wrap ((k : Int) - (t : Int)) = (k : Int) - (t : Int) := IntWalk.i64_in _ (by omega)
  have q2 : IntKind.i64.wrap ((k : Int) - (t : Int) - 1) = (k : Int) - (t : Int) - 1 := IntWalk.i64_in _ (by omega)
  have q3 : IntKind.i64.wrap (max ((k : Int) - (t : Int) - 1) 0 * 16) = max ((k : Int) - (t : Int) - 1) 0 * 16 := IntWalk.i64_in _ (by omega)
  have HD := Lib.hid (show Below W.heap.size W W.drew from ⟨rfl, rfl, rfl, Nat.le_refl _, fun _ _ => rfl⟩)
  have c0d : W.drew.cell? ⟨q, 0, none⟩ = some (.pointer (some ⟨p, 0, none⟩)) := c0
  have c3d : W.drew.cell? ⟨q, 3, none⟩ = some (.int .i64 (t : Int)) := c3
  have HD2 := HD
  clear h hs o hk
  go_enter Tryd.func17, Tryd.ntmps17
  go_upto_region 1 with (fail)
  go_region_held (fun w' => w'.cell? ⟨q, 0, none⟩ = some (.pointer (some ⟨p, 0, none⟩)) ∧ w'.cell? ⟨q, 3, none⟩ = some (.int .i64 (t : Int)) ∧ Hid (Below W.heap.size W w'))
    (first | with_reducible exact ⟨c0d, c3d, HD⟩ | assumption | (go_split_ands; with_reducible exact ⟨by assumption, by assumption, by assumption⟩))
    (first | (go_at_call 29; go_split_ands; (with_reducible refine (HH.out _ (Hid.out (by assumption))).mono ?_); rintro e w' ⟨rfl, rfl⟩))
  all_goals (
    go_split_ands
    go_wp2_with fail
    go_ret
    exact ⟨by unfold roomN; first | rfl | simp [q1, q2, q3], Hid.out (by assumption)⟩)
end
end Go.Proofs.YtnobhjpobnmiaaaDoor.Wl
