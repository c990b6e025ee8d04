/- The walk of start: a team at its beginning. -/
import Derived.Test.YtndnjmgmdkkifaaVw35
namespace Go.Proofs.Ytndnjmgmdkkifaa.Vw1
open Go Go.RowKit Go.Maps Go.Proofs Go.Proofs.Ytndnjmgmdkkifaa.New Go.Proofs.Ytndnjmgmdkkifaa.Vw Go.Proofs.Ytndnjmgmdkkifaa.Vw0 Go.Proofs.Ytndnjmgmdkkifaa.Q Go.Proofs.YtndnjmgmdkkifaaW.PrintWords Go.Proofs.YtndnjmgmdkkifaaW.PrintLast Go.Proofs.YtndnjmgmdkkifaaW.PrintMore
set_option linter.unusedVariables false
set_option linter.unusedSimpArgs false

theorem raw_at {sz : Nat} {e base : Nat} {w : World} {ok : Nat → Prop} {v : Value} {rows : List (List Value)} (h : (Kd.raw sz).R e w base ok v rows) (hn : 0 < rows.length) : ∃ g cap cur, v = .slice (some ⟨g, 0, none⟩) rows.length cap ∧ base ≤ g ∧ w.heap[g]? = some (.cells cur e (0, 0)) ∧ ∀ j cs, rows[j]? = some cs → ∀ (t : Nat) u, cs[t]? = some u → cur[j * sz + t]? = some u := by
  obtain ⟨_, inner, ho, hr⟩ := h
  rcases ho.2 with ⟨_, h0⟩ | ⟨g, cap, cur, rfl, hb, hg, _, _, _, ht⟩
  · omega
  · refine ⟨g, cap, cur, rfl, hb, hg, fun j cs hj t u hu => ?_⟩
    obtain ⟨h1, h2, _⟩ := hr.2 j cs hj
    change (inner.drop (j * sz)).take sz = cs at h1
    change _ = sz at h2
    rw [← h1] at hu
    have hlt : t < sz := by
      have := (List.getElem?_eq_some_iff.1 hu).1
      rw [List.length_take] at this
      omega
    rw [List.getElem?_take, if_pos hlt, List.getElem?_drop] at hu
    rw [← ht] at hu
    have hin : j * sz + t < rows.length * sz := by
      have := (List.getElem?_eq_some_iff.1 hj).1
      calc j * sz + t < j * sz + sz := by omega
        _ = (j + 1) * sz := by rw [Nat.succ_mul]
        _ ≤ rows.length * sz := Nat.mul_le_mul_right _ this
    change (cur.toList.take (rows.length * sz))[j * sz + t]? = some u at hu
    rw [List.getElem?_take, if_pos hin] at hu
    simpa using hu
/-- a team that is being made -/
structure TS (B : Nat) (W : World) (tb i : Nat) (p : Nat → Nat) (r : Nat → V) (vl vs : Value) (rl rs : List (List Value)) : Prop where
  parts : Parts B W i p r
  base : B ≤ tb
  blk : W.heap[tb]? = some (.cells #[vl, vs, .slice none 0 0] 61 (0, 0))
  rl : Kd.R (Kd.raw 1) 28 W B (fun _ => True) vl rl
  rs : Kd.R (Kd.raw 3) 24 W B (fun _ => True) vs rs
theorem R_typed {sz : Nat} {e B : Nat} {W : World} {v : Value} {rows : List (List Value)} (h : Kd.R (Kd.raw sz) e W B (fun _ => True) v rows) : ∀ g, v.ownBlock = some g → ∃ cells fr, W.heap[g]? = some (.cells cells e fr) := fun g hg => by
  obtain ⟨inner, ho⟩ := Kd.R_own h
  obtain ⟨cells, hc⟩ := own_typed ho g hg
  exact ⟨cells, _, hc⟩
section
variable {B : Nat} {W w1 : World} {tb i : Nat} {p : Nat → Nat} {r : Nat → V} {vl vs v1 : Value} {rl rs rows : List (List Value)}
theorem TS.below (h : TS B W tb i p r vl vs rl rs) (hb : Below W.heap.size W w1) : TS B w1 tb i p r vl vs rl rs :=
  ⟨h.parts.below hb, h.base, blk_below h.blk hb, Kd.R_below h.rl hb, Kd.R_below h.rs hb⟩
theorem TS.facts (h : TS B W tb i p r vl vs rl rs) {v : Value} {e : TypeId} (ht : ∀ g, v.ownBlock = some g → ∃ cells fr, W.heap[g]? = some (.cells cells e fr)) (he : e ≠ 61) (hg : W.grownBy w1 v.ownBlock) : w1.heap[tb]? = some (.cells #[vl, vs, .slice none 0 0] 61 (0, 0)) := other_row hg ht h.blk (Ne.symm he)
theorem row_ok {v : Value} {e : TypeId} (ht : ∀ g, v.ownBlock = some g → ∃ cells fr, W.heap[g]? = some (.cells cells e fr)) (h1 : e ≠ 73) (h2 : e ≠ 9) : RowOk W v.ownBlock := fun g hg => by
  obtain ⟨cells, fr, hc⟩ := ht g hg
  exact ⟨_, _, _, hc, h1, h2⟩
theorem TS.growl (h : TS B W tb i p r vl vs rl rs) (hg : W.grownBy w1 vl.ownBlock) (hr : Kd.R (Kd.raw 1) 28 w1 B (fun _ => True) v1 rows) : TS B (w1.setCell ⟨tb, 0, none⟩ v1) tb i p r v1 vs rows rs := by
  have ht := R_typed h.rl
  have hb := other_row hg ht h.blk (by decide)
  have hg2 := grown_set w1 tb 0 v1
  have hro2 : RowOk w1 (some tb) := fun g hgg => by cases hgg; exact ⟨_, _, _, hb, by decide, by decide⟩
  have ht2 : ∀ g, some tb = some g → ∃ cs fr, w1.heap[g]? = some (.cells cs 61 fr) := fun g hgg => by cases hgg; exact ⟨_, _, hb⟩
  refine ⟨(h.parts.grown hg (row_ok ht (by decide) (by decide))).grown hg2 hro2, h.base, blk_put hb 0 v1 rfl, R_raw_keep hr fun k cells hk => (other_row hg2 ht2 hk (by decide)).trans hk.symm, ?_⟩
  have h1 := R_raw_keep h.rs fun k cells hk => (other_row hg ht hk (by decide)).trans hk.symm
  exact R_raw_keep h1 fun k cells hk => (other_row hg2 ht2 hk (by decide)).trans hk.symm
theorem TS.grows (h : TS B W tb i p r vl vs rl rs) (hg : W.grownBy w1 vs.ownBlock) (hr : Kd.R (Kd.raw 3) 24 w1 B (fun _ => True) v1 rows) : TS B (w1.setCell ⟨tb, 1, none⟩ v1) tb i p r vl v1 rl rows := by
  have ht := R_typed h.rs
  have hb := other_row hg ht h.blk (by decide)
  have hg2 := grown_set w1 tb 1 v1
  have hro2 : RowOk w1 (some tb) := fun g hgg => by cases hgg; exact ⟨_, _, _, hb, by decide, by decide⟩
  have ht2 : ∀ g, some tb = some g → ∃ cs fr, w1.heap[g]? = some (.cells cs 61 fr) := fun g hgg => by cases hgg; exact ⟨_, _, hb⟩
  refine ⟨(h.parts.grown hg (row_ok ht (by decide) (by decide))).grown hg2 hro2, h.base, blk_put hb 1 v1 rfl, ?_, R_raw_keep hr fun k cells hk => (other_row hg2 ht2 hk (by decide)).trans hk.symm⟩
  have h1 := R_raw_keep h.rl fun k cells hk => (other_row hg ht hk (by decide)).trans hk.symm
  exact R_raw_keep h1 fun k cells hk => (other_row hg2 ht2 hk (by decide)).trans hk.symm
end
def lrows (p : Nat → Nat) (n : Nat) : List (List Value) := (List.range n).map fun j => [.pointer (some ⟨p j, 0, none⟩)]
def srows (n : Nat) : List (List Value) := List.replicate n [.int .i64 0, .int .i64 0, .slice none 0 0]
theorem lrows_snoc (p : Nat → Nat) (n q : Nat) : lrows p n ++ [[Value.pointer (some ⟨q, 0, none⟩)]] = lrows (upd p n q) (n + 1) := by
  unfold lrows
  rw [List.range_succ, List.map_append]
  congr 1
  · refine List.map_congr_left fun j hj => ?_
    rw [upd_other _ _ (by have := List.mem_range.1 hj; omega)]
  · simp [upd_same]
theorem srows_snoc (n : Nat) : srows n ++ [[.int .i64 0, .int .i64 0, .slice none 0 0]] = srows (n + 1) := by
  unfold srows
  rw [List.replicate_succ']
theorem TS.tm {B : Nat} {W : World} {tb n : Nat} {p : Nat → Nat} {r : Nat → V} {vl vs : Value} (h : TS B W tb n p r vl vs (lrows p n) (srows n)) (hn : 1 ≤ n) (hr : ∀ i, i < n → r i = made i n 0 0 []) : TM B W tb n p r (fun i => svOf (r i)) [] := by
  obtain ⟨gl, cl, csl, e1, b1, k1, a1⟩ := raw_at h.rl (by simp [lrows]; omega)
  obtain ⟨gs, cs, css, e2, b2, k2, a2⟩ := raw_at h.rs (by simp [srows]; omega)
  subst e1 e2
  have l1 : (lrows p n).length = n := by simp [lrows]
  have l2 : (srows n).length = n := by simp [srows]
  have hb := h.blk
  rw [l1, l2] at hb
  refine ⟨h.parts, h.base, gl, cl, csl, gs, cs, css, .slice none 0 0, [], hb, ⟨b1, k1, fun i hi => ?_⟩, ⟨b2, k2, fun i hi => ?_⟩, Kd.R_nil _ _ _ _ _, ⟨rfl, fun k f hk => by cases hk⟩⟩
  · have := a1 i [.pointer (some ⟨p i, 0, none⟩)] (by simp [lrows, hi]) 0 _ rfl
    simpa using this
  · have key : ∀ t u, _ → css[i * 3 + t]? = some u := a2 i [.int .i64 0, .int .i64 0, .slice none 0 0] (by simp [srows, hi])
    rw [hr i hi]
    exact ⟨none, 0, key 0 _ rfl, key 1 _ rfl, key 2 _ rfl, rd_nil W⟩
theorem info1 : (Try.prog.info? 28).map (fun i => (i.zero, i.size, i.bytes)) = some (some (.pointer none), 1, 8) := by kernel_rfl
theorem info3 : (Try.prog.info? 24).map (fun i => (i.zero, i.size, i.bytes)) = some (some (.agg #[.int .i64 0, .int .i64 0, .slice none 0 0]), 3, 40) := by kernel_rfl
theorem newV_made (i n : Nat) (h : i < n) (h5 : n ≤ 5) : newV (i : Int) (n : Int) 0 0 [] = some (made i n 0 0 []) := by
  unfold newV
  rw [if_pos]
  · rfl
  · have : rightL [] = true := by decide
    simp only [Bool.and_eq_true, decide_eq_true_eq]
    exact ⟨by omega, by omega, by omega, by omega, this, by omega, by omega, by omega⟩
set_option maxHeartbeats 2000000 in
set_option maxRecDepth 100000 in
theorem start_calls (W : World) (n : Nat) (h1 : 1 ≤ n) (h5 : n ≤ 5) : Calls Try.prog 28 #[.int .i64 (n : Int)] W fun e w' => ∃ tb p r, e = .returned (.tuple #[.pointer (some ⟨tb, 0, none⟩), .bool true]) ∧ TM W.heap.size w' tb n p r (fun i => svOf (r i)) [] ∧ (∀ i, i < n → r i = made i n 0 0 []) ∧ Below W.heap.size W w' := by
  have hp : Parts W.heap.size (W.alloc (.cells #[.slice none 0 0, .slice none 0 0, .slice none 0 0] 61)) 0 (fun _ => 0) (fun _ => made 0 0 0 0 []) := ⟨fun _ => 0, fun i hi => by omega⟩
  have HS := Lib.hid (show TS W.heap.size (W.alloc (.cells #[.slice none 0 0, .slice none 0 0, .slice none 0 0] 61)) W.heap.size 0 (fun _ => 0) (fun _ => made 0 0 0 0 []) (.slice none 0 0) (.slice none 0 0) (lrows (fun _ => 0) 0) (srows 0) from ⟨hp, Nat.le_refl _, blk_new W _, Kd.R_nil _ _ _ _ _, Kd.R_nil _ _ _ _ _⟩)
  have HB := Lib.hid (below_alloc (Below.refl W.heap.size W) (.cells #[.slice none 0 0, .slice none 0 0, .slice none 0 0] 61))
  clear hp
  go_enter Try.func28, Try.ntmps28
  go_wp2_with fail
  go_loopg [5] n (fun gg s5 wr => ∃ (i : Nat) (p : Nat → Nat) (r : Nat → V) (vl vs : Value), i ≤ n ∧ n - i ≤ gg ∧ s5 = .int .i64 (i : Int) ∧ Hid (TS W.heap.size wr W.heap.size i p r vl vs (lrows p i) (srows i)) ∧ Hid (∀ j, j < i → r j = made j n 0 0 []) ∧ Hid (Below W.heap.size W wr))
  case atStart => exact ⟨0, _, _, _, _, Nat.zero_le _, by omega, rfl, HS, Lib.hid (fun j hj => by omega), HB⟩
  case round =>
    obtain ⟨i, p, r, vl, vs, hi, hgg, rfl, hS, hR, hB⟩ := hrel
    by_cases hlt : i < n
    · have hltz : decide ((i : Int) < (n : Int)) = true := decide_eq_true (by omega)
      have HNE := Lib.hid (new_empty wr (newV_made i n hlt h5))
      have hwz : W.heap.size ≤ wr.heap.size := hB.out.size
      have hl1 : ((lrows p i).length + 1) * 8 ≤ 140737488355328 := by simp [lrows]; omega
      have hl3 : ((srows i).length + 1) * 40 ≤ 140737488355328 := by simp [srows]; omega
      have HL := Lib.hid (And.intro hl1 hl3)
      have HWZ := Lib.hid hwz
      clear hl1 hl3 hwz
      go_wp2_with (first | (go_at_call 12; refine HNE.out.mono ?_; rintro e w1 ⟨q, rfl, hp1, hb1⟩; have HP1 := Lib.hid hp1; have HB1 := Lib.hid (hB.out.trans (hb1.mono HWZ.out)); have HS1 := Lib.hid (show TS W.heap.size w1 W.heap.size (i + 1) (upd p i q) (upd r i (made i n 0 0 [])) vl vs (lrows p i) (srows i) from ⟨parts_add hS.out.parts HWZ.out hb1 hp1, Nat.le_refl _, blk_below hS.out.blk hb1, Kd.R_below hS.out.rl hb1, Kd.R_below hS.out.rs hb1⟩); obtain ⟨c0, c1, _⟩ := cells3 HS1.out.blk; clear hp1 hb1) | (at_builtin; refine Kd.R_append (Kd.raw 1) (w0 := W) W.heap.size rfl (.tmp 24) (.tmp 26) 57 28 (.pointer none) 8 rfl Try.underlying57 info1 rfl (by decide) (by decide) vl (lrows p i) [.pointer (some ⟨q, 0, none⟩)] [.pointer (some ⟨q, 0, none⟩)] (fun _ => True) (fun _ => False) rfl rfl ⟨rfl, rfl, by simp [Value.oneCell']⟩ (fun _ hk => hk.elim) (fun _ _ => trivial) HS1.out.rl HB1.out HB1.out.size HL.out.1 ?_; intro v1 w2 hr hb hg hat; obtain ⟨A5, c5, e5, _⟩ := Kd.R_reads hr; obtain ⟨N5, hN5⟩ : ∃ N, (lrows p i ++ [[Value.pointer (some ⟨q, 0, none⟩)]]).length = N := ⟨_, rfl⟩; rw [hN5] at e5; subst e5; rw [lrows_snoc] at hr; have HS2 := Lib.hid (HS1.out.growl hg hr); have hbk := HS1.out.facts (R_typed HS1.out.rl) (by decide) hg; obtain ⟨d0, d1, _⟩ := cells3 hbk; have g0 := blk_frozen hbk 0; have g1 := blk_frozen hbk 1; have HB2 := Lib.hid (below_put hb ⟨W.heap.size, 0, none⟩ (Nat.le_refl _) (.slice A5 N5 c5)); clear hr hb hg hat hbk hN5) | (at_builtin; refine Kd.R_append (Kd.raw 3) (w0 := W) W.heap.size rfl (.tmp 34) (.tmp 36) 58 24 (.agg #[.int .i64 0, .int .i64 0, .slice none 0 0]) 40 rfl Try.underlying58 info3 rfl (by decide) (by decide) vs (srows i) [.int .i64 0, .int .i64 0, .slice none 0 0] [.int .i64 0, .int .i64 0, .slice none 0 0] (fun _ => True) (fun _ => False) rfl (by rw [World.size_setCell]; rfl) ⟨rfl, rfl, by simp [Value.oneCell']⟩ (fun _ hk => hk.elim) (fun _ _ => trivial) HS2.out.rs HB2.out HB2.out.size HL.out.2 ?_; intro v2 w3 hr hb hg hat; obtain ⟨A6, c6, e6, _⟩ := Kd.R_reads hr; obtain ⟨N6, hN6⟩ : ∃ N, (srows i ++ [[Value.int .i64 0, .int .i64 0, .slice none 0 0]]).length = N := ⟨_, rfl⟩; rw [hN6] at e6; subst e6; rw [srows_snoc] at hr; have HS3 := Lib.hid (HS2.out.grows hg hr); have hbk := HS2.out.facts (R_typed HS2.out.rs) (by decide) hg; obtain ⟨h0, h1', _⟩ := cells3 hbk; have k0 := blk_frozen hbk 0; have k1 := blk_frozen hbk 1; have HB3 := Lib.hid (below_put hb ⟨W.heap.size, 1, none⟩ (Nat.le_refl _) (.slice A6 N6 c6)); clear hr hb hg hat hbk hN6))
      go_roundg (n - (i + 1))
      case measure => omega
      case rel =>
        refine ⟨i + 1, _, _, _, _, by omega, by omega, by go_num, HS3, Lib.hid (fun j hj => ?_), HB3⟩
        by_cases e : j = i
        · subst e; exact upd_same _ _ _
        · rw [upd_other _ _ e]; exact hR.out j (by omega)
    · have hltz : decide ((i : Int) < (n : Int)) = false := decide_eq_false (by omega)
      obtain rfl : i = n := by omega
      go_wp2_with fail
      go_ret2
      exact ⟨_, p, r, rfl, hS.out.tm h1 hR.out, hR.out, hB.out⟩
end Go.Proofs.Ytndnjmgmdkkifaa.Vw1
