/- The document's disk in memory: its small walks. -/
import Derived.Test.YtpchobikpamfcaaSk20
namespace Go.Proofs.Ytpchobikpamfcaa.Sk
open Go Go.RowKit Go.Maps Go.Proofs Go.Proofs.Ytpchobikpamfcaa.Q Go.Proofs.YtpchobikpamfcaaW.PrintWords Go.Proofs.YtpchobikpamfcaaW.PrintLast Go.Proofs.YtpchobikpamfcaaW.PrintMore
set_option linter.unusedVariables false
set_option linter.unusedSimpArgs false

/-- a row of bools -/
def RowB (W : World) (g cap : Nat) (b : List Bool) : Prop := ∃ ext : List Value, W.heap[g]? = some (.cells (b.map Value.bool ++ ext).toArray 4 (0, 0)) ∧ b.length + ext.length = cap
theorem RowB.keep {W W' : World} {g cap : Nat} {b : List Bool} (h : RowB W g cap b) (hk : W'.heap[g]? = W.heap[g]?) : RowB W' g cap b := by
  obtain ⟨ext, h1, h2⟩ := h
  exact ⟨ext, hk.trans h1, h2⟩
theorem RowB.cell {W : World} {g cap : Nat} {b : List Bool} (h : RowB W g cap b) (j : Nat) (hj : j < b.length) : W.cell? ⟨g, j, none⟩ = some (.bool b[j]) := by
  obtain ⟨ext, h1, _⟩ := h
  refine (blk_cell h1 j).trans ?_
  rw [List.getElem?_toArray, List.getElem?_append_left (by simpa using hj), List.getElem?_map, List.getElem?_eq_getElem hj]
  rfl
theorem RowB.frozen {W : World} {g cap : Nat} {b : List Bool} (h : RowB W g cap b) (j : Nat) : W.frozen? ⟨g, j, none⟩ = false := by
  obtain ⟨ext, h1, _⟩ := h
  exact blk_frozen h1 j
theorem RowB.lt {W : World} {g cap : Nat} {b : List Bool} (h : RowB W g cap b) : g < W.heap.size := by
  obtain ⟨ext, h1, _⟩ := h
  exact blk_lt h1
theorem RowB.put {W : World} {g cap : Nat} {b : List Bool} (h : RowB W g cap b) (j : Nat) (hj : j < b.length) (v : Bool) : RowB (W.setCell ⟨g, j, none⟩ (.bool v)) g cap (b.set j v) := by
  obtain ⟨ext, h1, h2⟩ := h
  refine ⟨ext, ?_, by rw [List.length_set]; exact h2⟩
  rw [blk_set h1 j]
  congr 2
  rw [List.setIfInBounds_toArray, List.set_append_left _ _ (by simpa using hj), List.map_set]
theorem Row.frozen {W : World} {g cap : Nat} {b : By} (h : Row W g cap b) (j : Nat) : W.frozen? ⟨g, j, none⟩ = false := by
  obtain ⟨ext, h1, _⟩ := h
  exact blk_frozen h1 j
theorem Row.lt {W : World} {g cap : Nat} {b : By} (h : Row W g cap b) : g < W.heap.size := by
  obtain ⟨ext, h1, _⟩ := h
  exact blk_lt h1
theorem Row.put {W : World} {g cap : Nat} {b : By} (h : Row W g cap b) (j : Nat) (hj : j < b.length) (v : Int) : Row (W.setCell ⟨g, j, none⟩ (.int .u8 v)) g cap (b.set j v) := by
  obtain ⟨ext, h1, h2⟩ := h
  refine ⟨ext, ?_, by rw [List.length_set]; exact h2⟩
  rw [blk_set h1 j]
  congr 2
  unfold enc
  rw [List.setIfInBounds_toArray, List.set_append_left _ _ (by simpa using hj), List.map_set]
/-- the document's disk, its rows named -/
structure RRx (W : World) (B q gb cb go co gw cw : Nat) (s : D) : Prop where
  blk : W.heap[q]? = some (.cells #[.slice (some ⟨gb, 0, none⟩) s.b.length cb, .slice (some ⟨go, 0, none⟩) s.old.length co, .slice (some ⟨gw, 0, none⟩) s.wet.length cw, .int .i64 (s.acts : Int), .bool (decide (0 ≤ s.fuse)), .int .i64 (max s.fuse 0), .bool s.down] 52 (0, 0))
  rb : Row W gb cb s.b
  ro : Row W go co s.old
  rw_ : RowB W gw cw s.wet
  ne : gb ≠ go
  hb : B ≤ q ∧ B ≤ gb ∧ B ≤ go ∧ B ≤ gw
  cap : cb ≤ 9223372036854775807 ∧ cw ≤ 9223372036854775807
/-- the document's disk -/
def RR (W : World) (B q : Nat) (s : D) : Prop := ∃ gb cb go co gw cw, RRx W B q gb cb go co gw cw s
section
variable {W W' : World} {B q gb cb go co gw cw : Nat} {s t : D}
theorem RRx.lt (h : RRx W B q gb cb go co gw cw s) : q < W.heap.size ∧ gb < W.heap.size ∧ go < W.heap.size ∧ gw < W.heap.size := ⟨blk_lt h.blk, h.rb.lt, h.ro.lt, h.rw_.lt⟩
theorem RRx.nes (h : RRx W B q gb cb go co gw cw s) : q ≠ gb ∧ q ≠ go ∧ q ≠ gw ∧ gb ≠ gw ∧ go ≠ gw := by
  obtain ⟨e1, h1, _⟩ := h.rb
  obtain ⟨e2, h2, _⟩ := h.ro
  obtain ⟨e3, h3, _⟩ := h.rw_
  exact ⟨blk_ne h.blk h1 (by decide), blk_ne h.blk h2 (by decide), blk_ne h.blk h3 (by decide), blk_ne h1 h3 (by decide), blk_ne h2 h3 (by decide)⟩
theorem RRx.keep (h : RRx W B q gb cb go co gw cw s) (hk : ∀ k, B ≤ k → k < W.heap.size → W'.heap[k]? = W.heap[k]?) : RRx W' B q gb cb go co gw cw s := by
  have hl := h.lt
  exact ⟨(hk q h.hb.1 hl.1).trans h.blk, h.rb.keep (hk _ h.hb.2.1 hl.2.1), h.ro.keep (hk _ h.hb.2.2.1 hl.2.2.1), h.rw_.keep (hk _ h.hb.2.2.2 hl.2.2.2), h.ne, h.hb, h.cap⟩
theorem RR.keep (h : RR W B q s) (hk : ∀ k, B ≤ k → k < W.heap.size → W'.heap[k]? = W.heap[k]?) : RR W' B q s := by
  obtain ⟨gb, cb, go, co, gw, cw, h⟩ := h
  exact ⟨gb, cb, go, co, gw, cw, h.keep hk⟩
theorem RR.below (h : RR W B q s) (hb : Below W.heap.size W W') : RR W' B q s := h.keep fun k _ hk => hb.block k hk
theorem RR.size (h : RR W B q s) : B ≤ W.heap.size := by
  obtain ⟨gb, cb, go, co, gw, cw, h⟩ := h
  have := h.lt
  have := h.hb
  omega
theorem cells7 {w : World} {g t : Nat} {v0 v1 v2 v3 v4 v5 v6 : Value} (h : w.heap[g]? = some (.cells #[v0, v1, v2, v3, v4, v5, v6] t (0, 0))) :
    w.cell? ⟨g, 0, none⟩ = some v0 ∧ w.cell? ⟨g, 1, none⟩ = some v1 ∧ w.cell? ⟨g, 2, none⟩ = some v2 ∧ w.cell? ⟨g, 3, none⟩ = some v3 ∧ w.cell? ⟨g, 4, none⟩ = some v4 ∧ w.cell? ⟨g, 5, none⟩ = some v5 ∧ w.cell? ⟨g, 6, none⟩ = some v6 :=
  ⟨(blk_cell h 0).trans rfl, (blk_cell h 1).trans rfl, (blk_cell h 2).trans rfl, (blk_cell h 3).trans rfl, (blk_cell h 4).trans rfl, (blk_cell h 5).trans rfl, (blk_cell h 6).trans rfl⟩
/-- a store into the disk's own block -/
theorem rr_put (h : RRx W B q gb cb go co gw cw s) (j : Nat) (u : Value) (hb : (W.setCell ⟨q, j, none⟩ u).heap[q]? = some (.cells #[.slice (some ⟨gb, 0, none⟩) t.b.length cb, .slice (some ⟨go, 0, none⟩) t.old.length co, .slice (some ⟨gw, 0, none⟩) t.wet.length cw, .int .i64 (t.acts : Int), .bool (decide (0 ≤ t.fuse)), .int .i64 (max t.fuse 0), .bool t.down] 52 (0, 0))) (e1 : t.b = s.b) (e2 : t.old = s.old) (e3 : t.wet = s.wet) :
    RRx (W.setCell ⟨q, j, none⟩ u) B q gb cb go co gw cw t ∧ Below B W (W.setCell ⟨q, j, none⟩ u) := by
  have hn := h.nes
  have h1 := Below.heap_setCell W ⟨q, j, none⟩ u gb (Ne.symm hn.1)
  have h2 := Below.heap_setCell W ⟨q, j, none⟩ u go (Ne.symm hn.2.1)
  have h3 := Below.heap_setCell W ⟨q, j, none⟩ u gw (Ne.symm hn.2.2.1)
  exact ⟨⟨hb, by rw [e1]; exact h.rb.keep h1, by rw [e2]; exact h.ro.keep h2, by rw [e3]; exact h.rw_.keep h3, h.ne, h.hb, h.cap⟩, rfl, rfl, rfl, by rw [World.size_setCell]; exact Nat.le_refl _, fun k hk => Below.heap_setCell W _ u k (by show k ≠ q; have := h.hb.1; omega)⟩
def D.died (s : D) : D := if s.off then { s with down := true } else s
set_option maxHeartbeats 2000000 in
set_option maxRecDepth 100000 in
theorem rpower_calls (h : RR W B q s) : Calls Try.prog 38 #[.pointer (some ⟨q, 0, none⟩)] W fun e w' => e = .returned (.bool (!s.off)) ∧ RR w' B q s.died ∧ Below B W w' := by
  obtain ⟨gb, cb, go, co, gw, cw, h⟩ := h
  obtain ⟨h0, h1, h2, h3, h4, h5, h6⟩ := cells7 h.blk
  have f6 := blk_frozen h.blk 6
  by_cases hz : s.fuse = 0
  · have hoff : s.off = true := by unfold D.off; rw [hz]; simp
    have hd : s.died = { s with down := true } := by unfold D.died; rw [hoff, if_pos rfl]
    have HP := Lib.hid (rr_put (t := { s with down := true }) h 6 (.bool true) (blk_put h.blk 6 _ rfl) rfl rfl rfl)
    rw [hoff, hd]
    rw [hz] at h4 h5
    change W.cell? _ = some (.bool true) at h4
    change W.cell? _ = some (.int .i64 0) at h5
    clear h h0 h1 h2 h3 hz hoff hd
    go_enter Try.func38, Try.ntmps38
    go_wp2_with fail
    go_ret
    exact ⟨rfl, ⟨_, _, _, _, _, _, HP.out.1⟩, HP.out.2⟩
  · have hoff : s.off = s.down := by unfold D.off; rw [show (s.fuse == 0) = false from beq_eq_false_iff_ne.2 hz, Bool.or_false]
    have hd : s.died = s := by
      unfold D.died
      rw [hoff]
      cases hdn : s.down with
      | false => rfl
      | true => rw [if_pos rfl, ← hdn]
    have HH := Lib.hid h
    rw [hoff, hd]
    obtain ⟨dn, hdn⟩ : ∃ d, s.down = d := ⟨_, rfl⟩
    rw [hdn] at h6 ⊢
    by_cases hp : 0 ≤ s.fuse
    · rw [decide_eq_true hp] at h4
      rw [show max s.fuse 0 = s.fuse by omega] at h5
      obtain ⟨fu, hfu⟩ : ∃ d, s.fuse = d := ⟨_, rfl⟩
      rw [hfu] at h5 hz
      clear h h0 h1 h2 h3 hoff hd hdn hp hfu
      go_enter Try.func38, Try.ntmps38
      go_wp2_with fail
      go_ret
      exact ⟨rfl, ⟨_, _, _, _, _, _, HH.out⟩, Below.refl _ _⟩
    · rw [decide_eq_false hp] at h4
      clear h h0 h1 h2 h3 hoff hd hdn hp hz
      go_enter Try.func38, Try.ntmps38
      go_wp2_with fail
      go_ret
      exact ⟨rfl, ⟨_, _, _, _, _, _, HH.out⟩, Below.refl _ _⟩
set_option maxHeartbeats 2000000 in
set_option maxRecDepth 100000 in
theorem rdid_calls (h : RR W B q s) (hoff : s.off = false) (hl : -1 ≤ s.fuse) (hu : s.fuse ≤ 9223372036854775807) (ha : s.acts ≤ 1000000000) : Calls Try.prog 39 #[.pointer (some ⟨q, 0, none⟩)] W fun e w' => e = .returned (.int .i64 0) ∧ RR w' B q s.did ∧ Below B W w' := by
  obtain ⟨gb, cb, go, co, gw, cw, h⟩ := h
  obtain ⟨h0, h1, h2, h3, h4, h5, h6⟩ := cells7 h.blk
  have f3 := blk_frozen h.blk 3
  have f5 := blk_frozen h.blk 5
  have hd : s.down = false ∧ (s.fuse == 0) = false := by
    unfold D.off at hoff
    exact Bool.or_eq_false_iff.1 hoff
  have hz : s.fuse ≠ 0 := by simpa using hd.2
  have k1 := rr_put (t := { s with acts := s.acts + 1 }) h 3 (.int .i64 ((s.acts : Int) + 1)) (blk_put h.blk 3 _ rfl) rfl rfl rfl
  by_cases hp : 0 ≤ s.fuse
  · have hdid : s.did = { s with acts := s.acts + 1, fuse := s.fuse - 1 } := by
      unfold D.did tick
      rw [show max (s.fuse - 1) (-1) = s.fuse - 1 by omega, ← hd.1]
    have k2 := rr_put (t := { s with acts := s.acts + 1, fuse := s.fuse - 1 }) k1.1 5 (.int .i64 (s.fuse - 1)) (by
      refine blk_put k1.1.blk 5 _ ?_
      show (#[_, _, _, _, _, _, _] : Array Value) = _
      rw [show decide (0 ≤ s.fuse) = decide (0 ≤ s.fuse - 1) from by rw [decide_eq_true hp, decide_eq_true (by omega)], show max (s.fuse - 1) 0 = s.fuse - 1 by omega]) rfl rfl rfl
    have HP := Lib.hid (And.intro k2.1 (k1.2.trans k2.2))
    rw [hdid]
    rw [decide_eq_true hp] at h4
    rw [show max s.fuse 0 = s.fuse by omega] at h5
    obtain ⟨fu, hfu⟩ : ∃ d, s.fuse = d := ⟨_, rfl⟩
    rw [hfu] at h5 hz hp hu HP
    obtain ⟨ac, hac⟩ : ∃ d, s.acts = d := ⟨_, rfl⟩
    rw [hac] at h3 ha HP
    rw [hfu, hac]
    clear h h0 h1 h2 h6 hoff hd hdid k1 k2 hfu hl hac
    go_enter Try.func39, Try.ntmps39
    go_wp2_with fail
    go_ret
    exact ⟨rfl, ⟨_, _, _, _, _, _, HP.out.1⟩, HP.out.2⟩
  · have hdid : s.did = { s with acts := s.acts + 1 } := by
      unfold D.did tick
      rw [show max (s.fuse - 1) (-1) = s.fuse by omega, ← hd.1]
    have HP := Lib.hid k1
    rw [hdid]
    rw [decide_eq_false hp] at h4
    obtain ⟨ac, hac⟩ : ∃ d, s.acts = d := ⟨_, rfl⟩
    rw [hac] at h3 ha HP
    rw [hac]
    clear h h0 h1 h2 h6 h5 hoff hd hdid k1 hl hac hz hp hu
    go_enter Try.func39, Try.ntmps39
    go_wp2_with fail
    go_ret
    exact ⟨rfl, ⟨_, _, _, _, _, _, HP.out.1⟩, HP.out.2⟩
set_option maxHeartbeats 2000000 in
set_option maxRecDepth 100000 in
theorem rfuse_calls (h : RR W B q s) (n : Int) : Calls Try.prog 26 #[.pointer (some ⟨q, 0, none⟩), .int .i64 n] W fun e w' => e = .returned (.tuple #[]) ∧ RR w' B q (s.fused n) ∧ Below B W w' := by
  obtain ⟨gb, cb, go, co, gw, cw, h⟩ := h
  obtain ⟨h0, h1, h2, h3, h4, h5, h6⟩ := cells7 h.blk
  have f4 := blk_frozen h.blk 4
  have f5 := blk_frozen h.blk 5
  have hbl : ∀ u v, ((W.setCell ⟨q, 4, none⟩ u).setCell ⟨q, 5, none⟩ v).heap[q]? = some (.cells #[.slice (some ⟨gb, 0, none⟩) s.b.length cb, .slice (some ⟨go, 0, none⟩) s.old.length co, .slice (some ⟨gw, 0, none⟩) s.wet.length cw, .int .i64 (s.acts : Int), u, v, .bool s.down] 52 (0, 0)) := fun u v => blk_put (blk_put h.blk 4 u rfl) 5 v rfl
  have hn := h.nes
  have hkp : ∀ u v k, k ≠ q → ((W.setCell ⟨q, 4, none⟩ u).setCell ⟨q, 5, none⟩ v).heap[k]? = W.heap[k]? := fun u v k hk => (Below.heap_setCell _ ⟨q, 5, none⟩ v k hk).trans (Below.heap_setCell W ⟨q, 4, none⟩ u k hk)
  have HP := Lib.hid (show RRx ((W.setCell ⟨q, 4, none⟩ (.bool (decide (0 ≤ n)))).setCell ⟨q, 5, none⟩ (.int .i64 (max n 0))) B q gb cb go co gw cw (s.fused n) ∧ Below B W ((W.setCell ⟨q, 4, none⟩ (.bool (decide (0 ≤ n)))).setCell ⟨q, 5, none⟩ (.int .i64 (max n 0))) from by
    have hb := hbl (.bool (decide (0 ≤ n))) (.int .i64 (max n 0))
    have hk := hkp (.bool (decide (0 ≤ n))) (.int .i64 (max n 0))
    refine ⟨⟨?_, h.rb.keep (hk _ (Ne.symm hn.1)), h.ro.keep (hk _ (Ne.symm hn.2.1)), h.rw_.keep (hk _ (Ne.symm hn.2.2.1)), h.ne, h.hb, h.cap⟩, rfl, rfl, rfl, by rw [World.size_setCell, World.size_setCell]; exact Nat.le_refl _, fun k hkB => hk k (by have := h.hb.1; omega)⟩
    rw [hb]
    show some (Obj.cells #[_, _, _, _, _, _, _] _ _) = some (Obj.cells #[_, _, _, _, .bool (decide (0 ≤ max n (-1))), .int .i64 (max (max n (-1)) 0), _] _ _)
    rw [show decide (0 ≤ max n (-1)) = decide (0 ≤ n) from by rw [decide_eq_decide]; omega, show max (max n (-1)) 0 = max n 0 by omega]
    rfl)
  by_cases c : n ≥ 0
  · rw [show decide (0 ≤ n) = true from decide_eq_true c] at HP
    clear h h0 h1 h2 h3 h6 hbl hkp hn
    go_enter Try.func26, Try.ntmps26
    go_wp2_with fail
    go_end0
    exact ⟨rfl, ⟨_, _, _, _, _, _, HP.out.1⟩, HP.out.2⟩
  · rw [show decide (0 ≤ n) = false from decide_eq_false c] at HP
    clear h h0 h1 h2 h3 h6 hbl hkp hn
    go_enter Try.func26, Try.ntmps26
    go_wp2_with fail
    go_end0
    exact ⟨rfl, ⟨_, _, _, _, _, _, HP.out.1⟩, HP.out.2⟩
end
end Go.Proofs.Ytpchobikpamfcaa.Sk
