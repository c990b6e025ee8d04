/- The walk of mounts.Begin where it begins to move. -/
import Derived.Test.YtpkaedpgpncgpaaMBegin2
namespace Go.Proofs.Ytpkaedpgpncgpaa.MBegin
open Go Go.RowKit Go.Shelf Go.Proofs Go.Proofs.Ytpkaedpgpncgpaa.Q Go.Proofs.YtpkaedpgpncgpaaW.PrintWords Go.Proofs.YtpkaedpgpncgpaaW.PrintLast Go.Proofs.YtpkaedpgpncgpaaW.PrintMore

abbrev enc (x : S27) : List Value := [.string x.f0, .int .i64 x.f1, .int .i64 x.f2, .int .i64 x.f3]
theorem M_any {w w' : World} {b b' : Nat} {ok ok' : Nat → Prop} {x : S27} {cs : List Value} (h : k27.M w b ok x cs) : k27.M w' b' ok' x cs := by
  have := k27_openM h
  rw [this]
  exact k27_mkM w' b' ok' x
theorem reps_one {R : S27 → List Value → Prop} {x : S27} {cs : List Value} (h : R x cs) (hl : cs.length = 4) : Reps R 4 [x] cs := by
  refine ⟨by simp [hl], fun j p hj => ?_⟩
  cases j with
  | zero =>
    simp at hj
    subst hj
    rw [Nat.zero_mul, List.drop_zero, List.take_of_length_le (by omega)]
    exact h
  | succ j => simp at hj
theorem inner_one {w : World} {b : Nat} {ok : Nat → Prop} {xs : List S27} {inner : List Value} (h : Reps (k27.M w b ok) 4 xs inner) : ∀ u ∈ inner, u.oneCell' = true := by
  intro u hu
  obtain ⟨q, hq, rfl⟩ := List.mem_iff_getElem.1 hu
  have hql : q / 4 < xs.length := by have := h.1; omega
  have hc := h.2 (q / 4) _ (List.getElem?_eq_getElem hql)
  refine k27.K_one (k27.K_of_M hc) _ ?_
  rw [List.mem_iff_getElem?]
  refine ⟨q % 4, ?_⟩
  rw [List.getElem?_take, if_pos (Nat.mod_lt _ (by omega)), List.getElem?_drop, Nat.mul_comm, Nat.div_add_mod, List.getElem?_eq_getElem hq]
theorem R_form {w : World} {base : Nat} {v : Value} {xs : List S27} (h : Kd.R k27 27 w base (fun _ => True) v xs) (hp : 0 < xs.length) : ∃ g cap cur, v = .slice (some ⟨g, 0, none⟩) xs.length cap ∧ base ≤ g ∧ xs.length ≤ cap ∧ cap ≤ 9223372036854775807 ∧ w.heap[g]? = some (.cells cur 27 (0, 0)) := by
  obtain ⟨_, inner, ⟨h1, h2⟩, _⟩ := h
  rcases h2 with ⟨_, h3⟩ | ⟨g, cap, cur, hv, hg, hh, hn, hm, _⟩
  · omega
  · exact ⟨g, cap, cur, hv, hg, hn, by unfold maxLen at hm; omega, hh⟩
/-- slices.Insert, in rows' words. -/
theorem insert_R (base : Nat) (v : Value) (xs : List S27) (x : S27) (i vb vc : Nat) (w : World) (hR : Kd.R k27 27 w base (fun _ => True) v xs) (hbase : base ≤ w.heap.size) (hi : i ≤ xs.length) (hn : xs.length ≤ 1000)
    (hv : w.heap[vb]? = some (.cells (enc x).toArray 27 (0, 0))) (hne : some vb ≠ v.ownBlock) :
    Calls Try.prog 31 #[v, .int .i64 i, .slice (some ⟨vb, 0, none⟩) 1 vc] w fun e w' => ∃ v', e = .returned v' ∧ Kd.R k27 27 w' base (fun _ => True) v' (xs.take i ++ [x] ++ xs.drop i) ∧ Below base w w' := by
  obtain ⟨_, inner, hown, hreps⟩ := hR
  have h1v : ∀ u ∈ enc x, u.oneCell' = true := fun u hu => k27.K_one (k27_mk w x) u hu
  refine (NMount.insert_calls base v xs.length i vb vc inner (enc x) 27 w hown hbase hi (by omega) rfl hv hne (inner_one hreps) h1v).mono ?_
  rintro e w' ⟨v', rfl, ho, hb⟩
  refine ⟨v', rfl, ⟨fun _ _ => trivial, inner.take (i * 4) ++ enc x ++ inner.drop (i * 4), ?_, ?_⟩, hb⟩
  · have : (xs.take i ++ [x] ++ xs.drop i).length = xs.length + 1 := by simp; omega
    rw [this]; exact ho
  · have r1 := (Kd.reps_take (m := i) hreps hi).imp_ (fun _ _ h => M_any (w' := w') (b' := base) (ok' := fun k => True ∧ some k ≠ v'.ownBlock) h)
    have r2 := (Kd.reps_drop (m := i) hreps).imp_ (fun _ _ h => M_any (w' := w') (b' := base) (ok' := fun k => True ∧ some k ≠ v'.ownBlock) h)
    exact Kd.reps_append (Kd.reps_append r1 (reps_one (k27_mkM _ _ _ x) rfl)) r2
theorem list_store {α : Type} (cur inner e : List α) (n a : Nat) (hct : cur.take n = inner) (hl : e.length = 4) (hin : inner.length = n) (ha : a + 4 ≤ n) :
    (cur.take a ++ e ++ cur.drop (a + e.length)).take n = inner.take a ++ e ++ inner.drop (a + 4) := by
  have e2 : cur.take a = inner.take a := by rw [← hct, List.take_take]; congr 1; omega
  have hA : (inner.take a ++ e).length = a + 4 := by rw [List.length_append, List.length_take, hin, hl]; omega
  have e3 : inner.drop (a + 4) = (cur.drop (a + 4)).take (n - (a + 4)) := by rw [← hct, List.drop_take]
  rw [e2, e3, hl, List.take_append, hA, List.take_of_length_le (by omega)]
theorem own_store {base g n cap i m : Nat} {inner e : List Value} {w : World} (h : w.ownsRow base 27 4 (.slice (some ⟨g, 0, none⟩) n cap) m inner) (hi : i < m) (he : e.length = 4) :
    (w.setCells g (i * 4) e).ownsRow base 27 4 (.slice (some ⟨g, 0, none⟩) n cap) m (inner.take (i * 4) ++ e ++ inner.drop (i * 4 + 4)) := by
  obtain ⟨hl, h2⟩ := h
  rcases h2 with ⟨h3, _⟩ | ⟨g', cap', cur, hv, hg, hh, hn, hm, hcz, hct⟩
  · cases h3
  · cases hv
    obtain ⟨c1, k1, k2, k3⟩ := setCells_row e (i * 4) w cur hh (by omega)
    refine ⟨?_, .inr ⟨g, cap, c1, rfl, hg, k1, hn, hm, by rw [k2, hcz], ?_⟩⟩
    · rw [List.length_append, List.length_append, List.length_take, List.length_drop, hl, he]; omega
    · rw [k3]
      exact list_store cur.toList inner e _ (i * 4) hct he hl (by omega)
/-- A store of a whole element into a row of one's own. -/
theorem store_R {base g n cap i : Nat} {xs : List S27} (x : S27) {w : World} (hR : Kd.R k27 27 w base (fun _ => True) (.slice (some ⟨g, 0, none⟩) n cap) xs) (hi : i < xs.length) :
    Kd.R k27 27 (w.setCells g (i * 4) (enc x)) base (fun _ => True) (.slice (some ⟨g, 0, none⟩) n cap) (xs.set i x) := by
  obtain ⟨_, inner, hown, hreps0⟩ := hR
  have hreps : Reps (k27.M w base (fun k => True ∧ some k ≠ (Value.slice (some ⟨g, 0, none⟩) n cap).ownBlock)) 4 xs inner := hreps0
  clear hreps0
  have e1 : xs.set i x = xs.take i ++ [x] ++ xs.drop (i + 1) := by rw [List.set_eq_take_append_cons_drop, if_pos hi]; simp
  have ho := own_store (e := enc x) hown hi rfl
  have r1 := (Kd.reps_take (m := i) hreps (by omega)).imp_ (fun _ _ h => M_any (w' := w.setCells g (i * 4) (enc x)) (b' := base) (ok' := fun k => True ∧ some k ≠ (Value.slice (some ⟨g, 0, none⟩) n cap).ownBlock) h)
  have r2 := (Kd.reps_drop (m := i + 1) hreps).imp_ (fun _ _ h => M_any (w' := w.setCells g (i * 4) (enc x)) (b' := base) (ok' := fun k => True ∧ some k ≠ (Value.slice (some ⟨g, 0, none⟩) n cap).ownBlock) h)
  have r3 := Kd.reps_append (Kd.reps_append r1 (reps_one (k27_mkM (w.setCells g (i * 4) (enc x)) base (fun k => True ∧ some k ≠ (Value.slice (some ⟨g, 0, none⟩) n cap).ownBlock) x) rfl)) r2
  rw [← e1, show (i + 1) * 4 = i * 4 + 4 by omega] at r3
  refine ⟨fun _ _ => trivial, inner.take (i * 4) ++ enc x ++ inner.drop (i * 4 + 4), ?_, r3⟩
  rw [List.length_set]
  exact ho

theorem ins_set {α : Type} (l : List α) (i : Nat) (x : α) (h : i ≤ l.length) : (l.take i ++ [x] ++ l.drop i).set i x = l.take i ++ x :: l.drop i := by
  rw [List.append_assoc, List.set_append_right _ _ (by rw [List.length_take]; omega), List.length_take, Nat.min_eq_left h, Nat.sub_self]
  rfl

set_option maxHeartbeats 8000000 in
set_option maxRecDepth 100000 in
theorem begin_new_A (P0 : Nat → Prop) (A : Option Addr) (c : Nat) (l : List S27) (p : ByteArray) (d : Int) (j : Nat) (w : World) (hv : Kd.V k27 27 w w.heap.size P0 (.slice A l.length c) l) (hr : Kd.C k27 w A l.length l) (hc : l.length ≤ c)
    (h1 : mounts_Right.f (l.length + 10) l = some true) (h2 : path_Right.f p = some true) (h3 : mounts_group.f d = some true) (h32 : l.length ≤ 32) (hall : l.all (inOk p) = true) (hof : mounts_Of.f (kOf l) l p = some (j : Int)) (hj : j < l.length) (ho : own_ p l = false) (hbu : l.any (busyB p) = false) (hz : ((rd_T27 l (j : Nat)).f1 == d) = false ∧ ((rd_T27 l (j : Nat)).f2 == 281474976710656) = false) (hlen : ((l.length : Int) == 32) = false) :
    Calls Try.prog 12 #[.slice A l.length c, .string p, .int .i64 d] w (Post w P0 (l.take (at_ p l) ++ ⟨p, (rd_T27 l (j : Nat)).f1, (rd_T27 l (j : Nat)).f2, d⟩ :: l.drop (at_ p l)) p (rd_T27 l (j : Nat)).f1 (rd_T27 l (j : Nat)).f2 d 0) := by
  have HR := Lib.hid (fun W (hW : Below w.heap.size w W) => mounts_Right.calls (l.length + 10) A c l true W (Kd.C_below hr hW) hc h1)
  have HP := Lib.hid (fun W => path_Right.calls p true W h2)
  have HG := Lib.hid (fun W => (mounts_group.calls d true W h3).mono (fun e w' (h : _ ∧ _) => And.intro h.1 h.2.below))
  have HF := Lib.hid (fun W (hW : Below w.heap.size w W) => find_calls A c l p W (Kd.C_below hr hW) (by omega))
  have HBU := Lib.hid (fun W g (hg : W.heap[g]? = some (.cells #[.string p] 9 (0, 0))) (hW : Below w.heap.size w W) => IMount.contains_calls 28 #[.pointer (some ⟨g, 0, none⟩)] (enters_of Try.func28 (by kernel_rfl) rfl) (busyB p) A c l W (busy_pred p g l W hall hg) (Kd.C_below hr hW) (by omega))
  have HOF := Lib.hid (fun W (hW : Below w.heap.size w W) => mounts_Of.calls (kOf l) A c l p (j : Int) W (Kd.C_below hr hW) hc hof)
  obtain ⟨ad, ea, hy0, hy1, hy2, hy3⟩ := at_T27 hr (j : Nat) (by omega) (by omega)
  simp only [Int.toNat_natCast] at hy0 hy1 hy2 hy3
  have HV := Lib.hid hv
  rw [ho] at HF
  rw [hbu] at HBU
  have HLE := Lib.hid (at_le p l)
  obtain ⟨i, hi⟩ : ∃ i, at_ p l = i := ⟨_, rfl⟩
  rw [hi] at HF HLE 
  (try rw [hi])
  obtain ⟨y, hyy⟩ : ∃ y, rd_T27 l (j : Nat) = y := ⟨_, rfl⟩
  rw [hyy] at hy0 hy1 hy2 hy3 hz
  (try rw [hyy])
  have HY := Lib.hid (And.intro hy0 (And.intro hy1 (And.intro hy2 hy3)))
  have HCL := Lib.hid (fun W (hW : Below w.heap.size w W) => CMount.clone_calls A c l W (Kd.C_below hr hW) (by omega))
  obtain ⟨n, hn⟩ : ∃ n, l.length = n := ⟨_, rfl⟩
  have HN := Lib.hid hn
  rw [hn] at HCL HR HF HBU HOF HV hj h32 hlen ⊢
  have hjz : (j : Int) < (n : Int) := by omega
  clear hr hc h1 h2 h3 ho hv hy0 hy1 hy2 hy3 hi hyy hof hall hbu 
  cases ea
  
  
  obtain ⟨hz1, hz2⟩ := hz
  go_enter Try.func12, Try.ntmps12
  go_wp2_with fail
  refine (HR.out _ (by repeat (first | exact Below.refl _ _ | apply below_alloc))).mono ?_
  rintro e w1 ⟨rfl, hb1⟩
  obtain ⟨hB, hP, hX⟩ := start1 hb1
  have HB1 := Lib.hid hB
  have HBP1 : Hid (w1.heap[w.heap.size]? = some (boxP p)) := hP
  have HBX1 : Hid (w1.heap[w.heap.size + 1]? = some zeroM) := hX
  clear hb1 hB hP hX
  have cp1 : w1.cell? ⟨w.heap.size, 0, none⟩ = some (.string p) := blk_cell HBP1.out 0
  have x0_1 : w1.cell? ⟨w.heap.size + 1, 0, none⟩ = some (.string ⟨#[]⟩) := blk_cell HBX1.out 0
  have f0_1 := blk_frozen HBX1.out 0
  have x1_1 : w1.cell? ⟨w.heap.size + 1, 1, none⟩ = some (.int .i64 0) := blk_cell HBX1.out 1
  have f1_1 := blk_frozen HBX1.out 1
  have x2_1 : w1.cell? ⟨w.heap.size + 1, 2, none⟩ = some (.int .i64 0) := blk_cell HBX1.out 2
  have f2_1 := blk_frozen HBX1.out 2
  have x3_1 : w1.cell? ⟨w.heap.size + 1, 3, none⟩ = some (.int .i64 0) := blk_cell HBX1.out 3
  have f3_1 := blk_frozen HBX1.out 3
  have b0_1 : w1.cell? _ = _ := (HB1.out.cell (World.block_lt_of_cell? w _ HY.out.1)).trans HY.out.1
  have b1_1 : w1.cell? _ = _ := (HB1.out.cell (World.block_lt_of_cell? w _ HY.out.2.1)).trans HY.out.2.1
  have b2_1 : w1.cell? _ = _ := (HB1.out.cell (World.block_lt_of_cell? w _ HY.out.2.2.1)).trans HY.out.2.2.1
  have b3_1 : w1.cell? _ = _ := (HB1.out.cell (World.block_lt_of_cell? w _ HY.out.2.2.2)).trans HY.out.2.2.2
  go_wp2_with fail
  refine (HP.out _).mono ?_
  rintro e w2 ⟨rfl, hb⟩
  clear cp1 x0_1 f0_1 x1_1 f1_1 x2_1 f2_1 x3_1 f3_1 b0_1 b1_1 b2_1 b3_1
  have HB2 : Hid (Below w.heap.size w w2) := below_step HB1.out hb
  have HBP2 : Hid (w2.heap[w.heap.size]? = some (boxP p)) := stepH HBP1.out hb
  have HBX2 : Hid (w2.heap[w.heap.size + 1]? = some zeroM) := stepH HBX1.out hb
  clear hb HB1 HBP1 HBX1
  have cp2 : w2.cell? ⟨w.heap.size, 0, none⟩ = some (.string p) := blk_cell HBP2.out 0
  have x0_2 : w2.cell? ⟨w.heap.size + 1, 0, none⟩ = some (.string ⟨#[]⟩) := blk_cell HBX2.out 0
  have f0_2 := blk_frozen HBX2.out 0
  have x1_2 : w2.cell? ⟨w.heap.size + 1, 1, none⟩ = some (.int .i64 0) := blk_cell HBX2.out 1
  have f1_2 := blk_frozen HBX2.out 1
  have x2_2 : w2.cell? ⟨w.heap.size + 1, 2, none⟩ = some (.int .i64 0) := blk_cell HBX2.out 2
  have f2_2 := blk_frozen HBX2.out 2
  have x3_2 : w2.cell? ⟨w.heap.size + 1, 3, none⟩ = some (.int .i64 0) := blk_cell HBX2.out 3
  have f3_2 := blk_frozen HBX2.out 3
  have b0_2 : w2.cell? _ = _ := (HB2.out.cell (World.block_lt_of_cell? w _ HY.out.1)).trans HY.out.1
  have b1_2 : w2.cell? _ = _ := (HB2.out.cell (World.block_lt_of_cell? w _ HY.out.2.1)).trans HY.out.2.1
  have b2_2 : w2.cell? _ = _ := (HB2.out.cell (World.block_lt_of_cell? w _ HY.out.2.2.1)).trans HY.out.2.2.1
  have b3_2 : w2.cell? _ = _ := (HB2.out.cell (World.block_lt_of_cell? w _ HY.out.2.2.2)).trans HY.out.2.2.2
  go_wp2_with fail
  refine (HG.out _).mono ?_
  rintro e w3 ⟨rfl, hb⟩
  clear cp2 x0_2 f0_2 x1_2 f1_2 x2_2 f2_2 x3_2 f3_2 b0_2 b1_2 b2_2 b3_2
  have HB3 : Hid (Below w.heap.size w w3) := below_step HB2.out hb
  have HBP3 : Hid (w3.heap[w.heap.size]? = some (boxP p)) := stepH HBP2.out hb
  have HBX3 : Hid (w3.heap[w.heap.size + 1]? = some zeroM) := stepH HBX2.out hb
  clear hb HB2 HBP2 HBX2
  have cp3 : w3.cell? ⟨w.heap.size, 0, none⟩ = some (.string p) := blk_cell HBP3.out 0
  have x0_3 : w3.cell? ⟨w.heap.size + 1, 0, none⟩ = some (.string ⟨#[]⟩) := blk_cell HBX3.out 0
  have f0_3 := blk_frozen HBX3.out 0
  have x1_3 : w3.cell? ⟨w.heap.size + 1, 1, none⟩ = some (.int .i64 0) := blk_cell HBX3.out 1
  have f1_3 := blk_frozen HBX3.out 1
  have x2_3 : w3.cell? ⟨w.heap.size + 1, 2, none⟩ = some (.int .i64 0) := blk_cell HBX3.out 2
  have f2_3 := blk_frozen HBX3.out 2
  have x3_3 : w3.cell? ⟨w.heap.size + 1, 3, none⟩ = some (.int .i64 0) := blk_cell HBX3.out 3
  have f3_3 := blk_frozen HBX3.out 3
  have b0_3 : w3.cell? _ = _ := (HB3.out.cell (World.block_lt_of_cell? w _ HY.out.1)).trans HY.out.1
  have b1_3 : w3.cell? _ = _ := (HB3.out.cell (World.block_lt_of_cell? w _ HY.out.2.1)).trans HY.out.2.1
  have b2_3 : w3.cell? _ = _ := (HB3.out.cell (World.block_lt_of_cell? w _ HY.out.2.2.1)).trans HY.out.2.2.1
  have b3_3 : w3.cell? _ = _ := (HB3.out.cell (World.block_lt_of_cell? w _ HY.out.2.2.2)).trans HY.out.2.2.2
  go_wp2_with fail
  refine (HF.out _ HB3.out).mono ?_
  rintro e w4 ⟨rfl, hb⟩
  clear cp3 x0_3 f0_3 x1_3 f1_3 x2_3 f2_3 x3_3 f3_3 b0_3 b1_3 b2_3 b3_3
  have HB4 : Hid (Below w.heap.size w w4) := below_step HB3.out hb
  have HBP4 : Hid (w4.heap[w.heap.size]? = some (boxP p)) := stepH HBP3.out hb
  have HBX4 : Hid (w4.heap[w.heap.size + 1]? = some zeroM) := stepH HBX3.out hb
  clear hb HB3 HBP3 HBX3
  have cp4 : w4.cell? ⟨w.heap.size, 0, none⟩ = some (.string p) := blk_cell HBP4.out 0
  have x0_4 : w4.cell? ⟨w.heap.size + 1, 0, none⟩ = some (.string ⟨#[]⟩) := blk_cell HBX4.out 0
  have f0_4 := blk_frozen HBX4.out 0
  have x1_4 : w4.cell? ⟨w.heap.size + 1, 1, none⟩ = some (.int .i64 0) := blk_cell HBX4.out 1
  have f1_4 := blk_frozen HBX4.out 1
  have x2_4 : w4.cell? ⟨w.heap.size + 1, 2, none⟩ = some (.int .i64 0) := blk_cell HBX4.out 2
  have f2_4 := blk_frozen HBX4.out 2
  have x3_4 : w4.cell? ⟨w.heap.size + 1, 3, none⟩ = some (.int .i64 0) := blk_cell HBX4.out 3
  have f3_4 := blk_frozen HBX4.out 3
  have b0_4 : w4.cell? _ = _ := (HB4.out.cell (World.block_lt_of_cell? w _ HY.out.1)).trans HY.out.1
  have b1_4 : w4.cell? _ = _ := (HB4.out.cell (World.block_lt_of_cell? w _ HY.out.2.1)).trans HY.out.2.1
  have b2_4 : w4.cell? _ = _ := (HB4.out.cell (World.block_lt_of_cell? w _ HY.out.2.2.1)).trans HY.out.2.2.1
  have b3_4 : w4.cell? _ = _ := (HB4.out.cell (World.block_lt_of_cell? w _ HY.out.2.2.2)).trans HY.out.2.2.2
  go_wp2_with fail
  refine (HBU.out _ _ HBP4.out HB4.out).mono ?_
  rintro e w5 ⟨rfl, hb⟩
  clear cp4 x0_4 f0_4 x1_4 f1_4 x2_4 f2_4 x3_4 f3_4 b0_4 b1_4 b2_4 b3_4
  have HB5 : Hid (Below w.heap.size w w5) := below_step HB4.out hb
  have HBP5 : Hid (w5.heap[w.heap.size]? = some (boxP p)) := stepH HBP4.out hb
  have HBX5 : Hid (w5.heap[w.heap.size + 1]? = some zeroM) := stepH HBX4.out hb
  clear hb HB4 HBP4 HBX4
  have cp5 : w5.cell? ⟨w.heap.size, 0, none⟩ = some (.string p) := blk_cell HBP5.out 0
  have x0_5 : w5.cell? ⟨w.heap.size + 1, 0, none⟩ = some (.string ⟨#[]⟩) := blk_cell HBX5.out 0
  have f0_5 := blk_frozen HBX5.out 0
  have x1_5 : w5.cell? ⟨w.heap.size + 1, 1, none⟩ = some (.int .i64 0) := blk_cell HBX5.out 1
  have f1_5 := blk_frozen HBX5.out 1
  have x2_5 : w5.cell? ⟨w.heap.size + 1, 2, none⟩ = some (.int .i64 0) := blk_cell HBX5.out 2
  have f2_5 := blk_frozen HBX5.out 2
  have x3_5 : w5.cell? ⟨w.heap.size + 1, 3, none⟩ = some (.int .i64 0) := blk_cell HBX5.out 3
  have f3_5 := blk_frozen HBX5.out 3
  have b0_5 : w5.cell? _ = _ := (HB5.out.cell (World.block_lt_of_cell? w _ HY.out.1)).trans HY.out.1
  have b1_5 : w5.cell? _ = _ := (HB5.out.cell (World.block_lt_of_cell? w _ HY.out.2.1)).trans HY.out.2.1
  have b2_5 : w5.cell? _ = _ := (HB5.out.cell (World.block_lt_of_cell? w _ HY.out.2.2.1)).trans HY.out.2.2.1
  have b3_5 : w5.cell? _ = _ := (HB5.out.cell (World.block_lt_of_cell? w _ HY.out.2.2.2)).trans HY.out.2.2.2
  go_wp2_with fail
  refine (HOF.out _ HB5.out).mono ?_
  rintro e w6 ⟨rfl, hb⟩
  clear cp5 x0_5 f0_5 x1_5 f1_5 x2_5 f2_5 x3_5 f3_5 b0_5 b1_5 b2_5 b3_5
  have HB6 : Hid (Below w.heap.size w w6) := below_step HB5.out hb
  have HBP6 : Hid (w6.heap[w.heap.size]? = some (boxP p)) := stepH HBP5.out hb
  have HBX6 : Hid (w6.heap[w.heap.size + 1]? = some zeroM) := stepH HBX5.out hb
  clear hb HB5 HBP5 HBX5
  have cp6 : w6.cell? ⟨w.heap.size, 0, none⟩ = some (.string p) := blk_cell HBP6.out 0
  have x0_6 : w6.cell? ⟨w.heap.size + 1, 0, none⟩ = some (.string ⟨#[]⟩) := blk_cell HBX6.out 0
  have f0_6 := blk_frozen HBX6.out 0
  have x1_6 : w6.cell? ⟨w.heap.size + 1, 1, none⟩ = some (.int .i64 0) := blk_cell HBX6.out 1
  have f1_6 := blk_frozen HBX6.out 1
  have x2_6 : w6.cell? ⟨w.heap.size + 1, 2, none⟩ = some (.int .i64 0) := blk_cell HBX6.out 2
  have f2_6 := blk_frozen HBX6.out 2
  have x3_6 : w6.cell? ⟨w.heap.size + 1, 3, none⟩ = some (.int .i64 0) := blk_cell HBX6.out 3
  have f3_6 := blk_frozen HBX6.out 3
  have b0_6 : w6.cell? _ = _ := (HB6.out.cell (World.block_lt_of_cell? w _ HY.out.1)).trans HY.out.1
  have b1_6 : w6.cell? _ = _ := (HB6.out.cell (World.block_lt_of_cell? w _ HY.out.2.1)).trans HY.out.2.1
  have b2_6 : w6.cell? _ = _ := (HB6.out.cell (World.block_lt_of_cell? w _ HY.out.2.2.1)).trans HY.out.2.2.1
  have b3_6 : w6.cell? _ = _ := (HB6.out.cell (World.block_lt_of_cell? w _ HY.out.2.2.2)).trans HY.out.2.2.2
  have g0 := blk_lt HBP6.out
  have g1 := blk_lt HBX6.out
  go_wp2_with fail
  refine (HCL.out _ (by repeat (first | exact HB6.out | refine below_alloc ?_ _ | refine Below.setCell ?_ (Nat.le_of_lt g0) _))).mono ?_
  rintro e w7 ⟨v, rfl, ho, hb⟩
  have HB7 : Hid (Below w.heap.size w w7) := below_step (below_alloc HB6.out _) hb
  have hX : w7.heap[w.heap.size + 1]? = some zeroM := stepH ((Below.heap_alloc w6 _ _ g1).trans HBX6.out) hb
  have hsz : (w6.alloc (.cells (enc ⟨p, y.f1, y.f2, d⟩).toArray 27)).heap.size = w6.heap.size + 1 := by show (w6.heap.push _).size = _; simp
  have hZ : w7.heap[w6.heap.size]? = some (.cells (enc ⟨p, y.f1, y.f2, d⟩).toArray 27 (0, 0)) := stepH (W := w6.alloc (.cells (enc ⟨p, y.f1, y.f2, d⟩).toArray 27)) (by show (w6.heap.push _)[w6.heap.size]? = _; simp) hb
  have hbs := hb.size
  rw [hsz] at ho hbs
  have HO := Lib.hid ho
  have HX7 := Lib.hid hX
  have HZ7 := Lib.hid hZ
  have hB6 := HB6.out.size
  clear hb hsz ho hX hZ
  clear cp6 x0_6 f0_6 x1_6 f1_6 x2_6 f2_6 x3_6 f3_6 b0_6 b1_6 b2_6 b3_6
  clear HB6 HBP6 HBX6
  obtain ⟨Z, hZe⟩ : ∃ Z, w6.heap.size = Z := ⟨_, rfl⟩
  rw [hZe] at HO HZ7 hbs g0 g1 hB6 ⊢
  clear hZe
  have z0 : w7.cell? ⟨Z, 0, none⟩ = some (.string p) := blk_cell HZ7.out 0
  have z1 : w7.cell? ⟨Z, 1, none⟩ = some (.int .i64 y.f1) := blk_cell HZ7.out 1
  have z2 : w7.cell? ⟨Z, 2, none⟩ = some (.int .i64 y.f2) := blk_cell HZ7.out 2
  have z3 : w7.cell? ⟨Z, 3, none⟩ = some (.int .i64 d) := blk_cell HZ7.out 3
  have x0 : w7.cell? ⟨w.heap.size + 1, 0, none⟩ = some (.string ⟨#[]⟩) := blk_cell HX7.out 0
  have f0 := blk_frozen HX7.out 0
  have x1 : w7.cell? ⟨w.heap.size + 1, 1, none⟩ = some (.int .i64 0) := blk_cell HX7.out 1
  have f1 := blk_frozen HX7.out 1
  have x2 : w7.cell? ⟨w.heap.size + 1, 2, none⟩ = some (.int .i64 0) := blk_cell HX7.out 2
  have f2 := blk_frozen HX7.out 2
  have x3 : w7.cell? ⟨w.heap.size + 1, 3, none⟩ = some (.int .i64 0) := blk_cell HX7.out 3
  have f3 := blk_frozen HX7.out 3
  go_wp2_with fail
  have hle : i ≤ l.length := by have := HLE.out; omega
  have hl9 : w7.heap.size ≤ (w7.alloc (.cells (enc ⟨p, y.f1, y.f2, d⟩).toArray 27)).heap.size := by show _ ≤ (w7.heap.push _).size; simp
  have hnew : (w7.alloc (.cells (enc ⟨p, y.f1, y.f2, d⟩).toArray 27)).heap[w7.heap.size]? = some (.cells (enc ⟨p, y.f1, y.f2, d⟩).toArray 27 (0, 0)) := by show (w7.heap.push _)[w7.heap.size]? = _; simp
  have hne9 : some w7.heap.size ≠ v.ownBlock := fun e => by
    obtain ⟨inner, hown⟩ := Kd.R_own HO.out
    have := own_lt hown _ e.symm
    omega
  have hx9 : (w7.alloc (.cells (enc ⟨p, y.f1, y.f2, d⟩).toArray 27)).heap[w.heap.size + 1]? = some zeroM := (Below.heap_alloc w7 _ _ (blk_lt HX7.out)).trans HX7.out
  have hz9 : (w7.alloc (.cells (enc ⟨p, y.f1, y.f2, d⟩).toArray 27)).heap[Z]? = some (.cells (enc ⟨p, y.f1, y.f2, d⟩).toArray 27 (0, 0)) := (Below.heap_alloc w7 _ _ (blk_lt HZ7.out)).trans HZ7.out
  refine (insert_R (Z + 1) v l ⟨p, y.f1, y.f2, d⟩ i w7.heap.size 1 _ (Kd.R_alloc HO.out _) (Nat.le_trans hbs hl9) hle (by have := HN.out; omega) hnew hne9).mono ?_
  rintro e w9 ⟨v9, rfl, ho9, hb9⟩
  have HB9 : Hid (Below w.heap.size w w9) := (below_alloc HB7.out _).trans (hb9.mono (by omega))
  have HX9 : Hid (w9.heap[w.heap.size + 1]? = some zeroM) := (hb9.block _ (by omega)).trans hx9
  have HZ9 : Hid (w9.heap[Z]? = some (.cells (enc ⟨p, y.f1, y.f2, d⟩).toArray 27 (0, 0))) := (hb9.block _ (by omega)).trans hz9
  have HO9 := Lib.hid ho9
  clear ho9 hb9 hx9 hz9 hnew hne9 hl9 z0 z1 z2 z3 x0 x1 x2 x3 f0 f1 f2 f3 hbs
  obtain ⟨n9, hn9⟩ : ∃ n9, (l.take i ++ (⟨p, y.f1, y.f2, d⟩ : S27) :: l.drop i).length = n9 := ⟨_, rfl⟩
  have hn10 : (l.take i ++ [(⟨p, y.f1, y.f2, d⟩ : S27)] ++ l.drop i).length = n9 := by rw [← hn9]; simp
  have hin9 : i < n9 := by rw [← hn9]; simp; omega
  obtain ⟨g, cap, cur, rfl, hg, hnc, hcap, hh⟩ := R_form HO9.out (by omega)
  obtain ⟨ad3, ea3, hc0, hc1, hc2, hc3⟩ := at_T27 (Kd.R_reads' HO9.out).2.2 (i : Nat) (by omega) (by omega)
  cases ea3
  simp only [Int.toNat_natCast, Addr.add_lit, Nat.zero_add] at hc0 hc1 hc2 hc3
  have r0 := blk_frozen hh (i * 4)
  have r1 := blk_frozen hh (i * 4 + 1)
  have r2 := blk_frozen hh (i * 4 + 2)
  have r3 := blk_frozen hh (i * 4 + 3)
  have hgN : g ≠ w.heap.size + 1 := by omega
  have hgZ : g ≠ Z := by omega
  have hil : i < (l.take i ++ [(⟨p, y.f1, y.f2, d⟩ : S27)] ++ l.drop i).length := by omega
  have hiz : (i : Int) < (n9 : Int) := by omega
  clear hh
  rw [hn10] at hnc ⊢
  have z0 : w9.cell? ⟨Z, 0, none⟩ = some (.string p) := blk_cell HZ9.out 0
  have z1 : w9.cell? ⟨Z, 1, none⟩ = some (.int .i64 y.f1) := blk_cell HZ9.out 1
  have z2 : w9.cell? ⟨Z, 2, none⟩ = some (.int .i64 y.f2) := blk_cell HZ9.out 2
  have z3 : w9.cell? ⟨Z, 3, none⟩ = some (.int .i64 d) := blk_cell HZ9.out 3
  have x0 : w9.cell? ⟨w.heap.size + 1, 0, none⟩ = some (.string ⟨#[]⟩) := blk_cell HX9.out 0
  have f0 := blk_frozen HX9.out 0
  have x1 : w9.cell? ⟨w.heap.size + 1, 1, none⟩ = some (.int .i64 0) := blk_cell HX9.out 1
  have f1 := blk_frozen HX9.out 1
  have x2 : w9.cell? ⟨w.heap.size + 1, 2, none⟩ = some (.int .i64 0) := blk_cell HX9.out 2
  have f2 := blk_frozen HX9.out 2
  have x3 : w9.cell? ⟨w.heap.size + 1, 3, none⟩ = some (.int .i64 0) := blk_cell HX9.out 3
  have f3 := blk_frozen HX9.out 3
  go_wp2_with fail
  go_region
  go_wp2_with fail
  have H8 := store_R ⟨p, y.f1, y.f2, d⟩ HO9.out hil
  have HX8 : (w9.setCells g (i * 4) (enc ⟨p, y.f1, y.f2, d⟩)).heap[w.heap.size + 1]? = some zeroM := (setCells_far _ _ _ (Ne.symm hgN)).trans HX9.out
  have H9 := Kd.R_mono (ok' := fun k => Z + 1 ≤ k) (Kd.R_bound H8) (fun k hk => hk.2.1)
  have hgB : w.heap.size ≤ g := by omega
  have hfar : ∀ k, Z + 1 ≤ k → k ≠ w.heap.size + 1 := fun k hk => by omega
  refine bodyPost_ret (results_list (rs := [.tmp 6, .cell 7 27, .tmp 8]) rfl (by simp) (.tmp (.cell (w.heap.size + 1) 27 _ (0, 0) _ rfl (setXd HX8 _ _ _ _) Try.underlying27 rfl (by kernel_rfl) (.tmp .nil)))) rfl ?_
  rw [ins_set l i _ hle, hn10] at H9
  have H10 := Kd.R_far (p := ⟨w.heap.size + 1, 3, none⟩) (Kd.R_far (p := ⟨w.heap.size + 1, 2, none⟩) (Kd.R_far (p := ⟨w.heap.size + 1, 1, none⟩) (Kd.R_far (p := ⟨w.heap.size + 1, 0, none⟩) H9 hfar (.string p)) hfar (.int .i64 y.f1)) hfar (.int .i64 y.f2)) hfar (.int .i64 d)
  have hN1 : w.heap.size ≤ w.heap.size + 1 := Nat.le_succ _
  have hV := Kd.R_V (base' := w.heap.size) (Kd.R_mono (ok' := fun k => P0 k ∨ w.heap.size ≤ k) (Kd.R_drew H10) (fun k hk => .inr (by omega)))
  have b1 := Below.setCell (p := ⟨g, i * 4, none⟩) HB9.out hgB (.string p)
  have b2 := Below.setCell (p := ⟨g, i * 4 + 1, none⟩) b1 hgB (.int .i64 y.f1)
  have b3 := Below.setCell (p := ⟨g, i * 4 + 2, none⟩) b2 hgB (.int .i64 y.f2)
  have b4 := Below.setCell (p := ⟨g, i * 4 + 3, none⟩) b3 hgB (.int .i64 d)
  have b5 := Below.setCell (p := ⟨w.heap.size + 1, 0, none⟩) b4 hN1 (.string p)
  have b6 := Below.setCell (p := ⟨w.heap.size + 1, 1, none⟩) b5 hN1 (.int .i64 y.f1)
  have b7 := Below.setCell (p := ⟨w.heap.size + 1, 2, none⟩) b6 hN1 (.int .i64 y.f2)
  have b8 := Below.drew (Below.setCell (p := ⟨w.heap.size + 1, 3, none⟩) b7 hN1 (.int .i64 d))
  exact ⟨_, rfl, hV, b8⟩

set_option maxHeartbeats 8000000 in
set_option maxRecDepth 100000 in
theorem begin_new_B (P0 : Nat → Prop) (A : Option Addr) (c : Nat) (l : List S27) (p : ByteArray) (d : Int) (j : Nat) (w : World) (hv : Kd.V k27 27 w w.heap.size P0 (.slice A l.length c) l) (hr : Kd.C k27 w A l.length l) (hc : l.length ≤ c)
    (h1 : mounts_Right.f (l.length + 10) l = some true) (h2 : path_Right.f p = some true) (h3 : mounts_group.f d = some true) (h32 : l.length ≤ 32) (hall : l.all (inOk p) = true) (hof : mounts_Of.f (kOf l) l p = some (j : Int)) (hj : j < l.length) (ho : own_ p l = true) (hm : movB (rd_T27 l (at_ p l : Nat)) = false) (hbu : l.any (busyB p) = false) (hz : ((rd_T27 l (j : Nat)).f1 == d) = false ∧ ((rd_T27 l (j : Nat)).f2 == 281474976710656) = false) :
    Calls Try.prog 12 #[.slice A l.length c, .string p, .int .i64 d] w (Post w P0 (l.set (at_ p l) ⟨p, (rd_T27 l (j : Nat)).f1, (rd_T27 l (j : Nat)).f2, d⟩) p (rd_T27 l (j : Nat)).f1 (rd_T27 l (j : Nat)).f2 d 0) := by
  have HR := Lib.hid (fun W (hW : Below w.heap.size w W) => mounts_Right.calls (l.length + 10) A c l true W (Kd.C_below hr hW) hc h1)
  have HP := Lib.hid (fun W => path_Right.calls p true W h2)
  have HG := Lib.hid (fun W => (mounts_group.calls d true W h3).mono (fun e w' (h : _ ∧ _) => And.intro h.1 h.2.below))
  have HF := Lib.hid (fun W (hW : Below w.heap.size w W) => find_calls A c l p W (Kd.C_below hr hW) (by omega))
  have HBU := Lib.hid (fun W g (hg : W.heap[g]? = some (.cells #[.string p] 9 (0, 0))) (hW : Below w.heap.size w W) => IMount.contains_calls 28 #[.pointer (some ⟨g, 0, none⟩)] (enters_of Try.func28 (by kernel_rfl) rfl) (busyB p) A c l W (busy_pred p g l W hall hg) (Kd.C_below hr hW) (by omega))
  have HOF := Lib.hid (fun W (hW : Below w.heap.size w W) => mounts_Of.calls (kOf l) A c l p (j : Int) W (Kd.C_below hr hW) hc hof)
  obtain ⟨ad, ea, hy0, hy1, hy2, hy3⟩ := at_T27 hr (j : Nat) (by omega) (by omega)
  simp only [Int.toNat_natCast] at hy0 hy1 hy2 hy3
  have HV := Lib.hid hv
  rw [ho] at HF
  rw [hbu] at HBU
  have hlt : at_ p l < l.length := by
    have : (decide (at_ p l < l.length) && decide (cmpP p (rd_T27 l (at_ p l : Nat)) = 0)) = true := ho
    simp at this
    exact this.1
  obtain ⟨ad2, ea2, hx0, hx1, hx2, hx3⟩ := at_T27 hr (at_ p l : Nat) (by omega) (by omega)
  simp only [Int.toNat_natCast] at hx0 hx1 hx2 hx3
  obtain rfl : ad = ad2 := Option.some.inj (ea.symm.trans ea2)
  have HLE := Lib.hid (at_le p l)
  obtain ⟨i, hi⟩ : ∃ i, at_ p l = i := ⟨_, rfl⟩
  rw [hi] at HF HLE hx0 hx1 hx2 hx3 hlt hm
  (try rw [hi])
  obtain ⟨x, hxx⟩ : ∃ x, rd_T27 l (i : Nat) = x := ⟨_, rfl⟩
  rw [hxx] at hx0 hx1 hx2 hx3 hm
  have HX := Lib.hid (And.intro hx0 (And.intro hx1 (And.intro hx2 hx3)))
  obtain ⟨mv, hmv⟩ : ∃ mv, movB x = mv := ⟨_, rfl⟩
  have HM := Lib.hid (fun W => moves_is x mv hmv W)
  rw [hmv] at hm
  obtain ⟨y, hyy⟩ : ∃ y, rd_T27 l (j : Nat) = y := ⟨_, rfl⟩
  rw [hyy] at hy0 hy1 hy2 hy3 hz
  (try rw [hyy])
  have HY := Lib.hid (And.intro hy0 (And.intro hy1 (And.intro hy2 hy3)))
  have HCL := Lib.hid (fun W (hW : Below w.heap.size w W) => CMount.clone_calls A c l W (Kd.C_below hr hW) (by omega))
  obtain ⟨n, hn⟩ : ∃ n, l.length = n := ⟨_, rfl⟩
  have HN := Lib.hid hn
  rw [hn] at HCL HR HF HBU HOF HV hj h32 hlt ⊢
  have hjz : (j : Int) < (n : Int) := by omega
  clear hr hc h1 h2 h3 ho hv hy0 hy1 hy2 hy3 hi hyy hof hall hbu hx0 hx1 hx2 hx3 hxx hmv ea2
  cases ea
  
  have hlz : (i : Int) < (n : Int) := by omega
  
  subst hm
  obtain ⟨hz1, hz2⟩ := hz
  go_enter Try.func12, Try.ntmps12
  go_wp2_with fail
  refine (HR.out _ (by repeat (first | exact Below.refl _ _ | apply below_alloc))).mono ?_
  rintro e w1 ⟨rfl, hb1⟩
  obtain ⟨hB, hP, hX⟩ := start1 hb1
  have HB1 := Lib.hid hB
  have HBP1 : Hid (w1.heap[w.heap.size]? = some (boxP p)) := hP
  have HBX1 : Hid (w1.heap[w.heap.size + 1]? = some zeroM) := hX
  clear hb1 hB hP hX
  have cp1 : w1.cell? ⟨w.heap.size, 0, none⟩ = some (.string p) := blk_cell HBP1.out 0
  have x0_1 : w1.cell? ⟨w.heap.size + 1, 0, none⟩ = some (.string ⟨#[]⟩) := blk_cell HBX1.out 0
  have f0_1 := blk_frozen HBX1.out 0
  have x1_1 : w1.cell? ⟨w.heap.size + 1, 1, none⟩ = some (.int .i64 0) := blk_cell HBX1.out 1
  have f1_1 := blk_frozen HBX1.out 1
  have x2_1 : w1.cell? ⟨w.heap.size + 1, 2, none⟩ = some (.int .i64 0) := blk_cell HBX1.out 2
  have f2_1 := blk_frozen HBX1.out 2
  have x3_1 : w1.cell? ⟨w.heap.size + 1, 3, none⟩ = some (.int .i64 0) := blk_cell HBX1.out 3
  have f3_1 := blk_frozen HBX1.out 3
  have a0_1 : w1.cell? _ = _ := (HB1.out.cell (World.block_lt_of_cell? w _ HX.out.1)).trans HX.out.1
  have a1_1 : w1.cell? _ = _ := (HB1.out.cell (World.block_lt_of_cell? w _ HX.out.2.1)).trans HX.out.2.1
  have a2_1 : w1.cell? _ = _ := (HB1.out.cell (World.block_lt_of_cell? w _ HX.out.2.2.1)).trans HX.out.2.2.1
  have a3_1 : w1.cell? _ = _ := (HB1.out.cell (World.block_lt_of_cell? w _ HX.out.2.2.2)).trans HX.out.2.2.2
  have b0_1 : w1.cell? _ = _ := (HB1.out.cell (World.block_lt_of_cell? w _ HY.out.1)).trans HY.out.1
  have b1_1 : w1.cell? _ = _ := (HB1.out.cell (World.block_lt_of_cell? w _ HY.out.2.1)).trans HY.out.2.1
  have b2_1 : w1.cell? _ = _ := (HB1.out.cell (World.block_lt_of_cell? w _ HY.out.2.2.1)).trans HY.out.2.2.1
  have b3_1 : w1.cell? _ = _ := (HB1.out.cell (World.block_lt_of_cell? w _ HY.out.2.2.2)).trans HY.out.2.2.2
  go_wp2_with fail
  refine (HP.out _).mono ?_
  rintro e w2 ⟨rfl, hb⟩
  clear cp1 x0_1 f0_1 x1_1 f1_1 x2_1 f2_1 x3_1 f3_1 a0_1 a1_1 a2_1 a3_1 b0_1 b1_1 b2_1 b3_1
  have HB2 : Hid (Below w.heap.size w w2) := below_step HB1.out hb
  have HBP2 : Hid (w2.heap[w.heap.size]? = some (boxP p)) := stepH HBP1.out hb
  have HBX2 : Hid (w2.heap[w.heap.size + 1]? = some zeroM) := stepH HBX1.out hb
  clear hb HB1 HBP1 HBX1
  have cp2 : w2.cell? ⟨w.heap.size, 0, none⟩ = some (.string p) := blk_cell HBP2.out 0
  have x0_2 : w2.cell? ⟨w.heap.size + 1, 0, none⟩ = some (.string ⟨#[]⟩) := blk_cell HBX2.out 0
  have f0_2 := blk_frozen HBX2.out 0
  have x1_2 : w2.cell? ⟨w.heap.size + 1, 1, none⟩ = some (.int .i64 0) := blk_cell HBX2.out 1
  have f1_2 := blk_frozen HBX2.out 1
  have x2_2 : w2.cell? ⟨w.heap.size + 1, 2, none⟩ = some (.int .i64 0) := blk_cell HBX2.out 2
  have f2_2 := blk_frozen HBX2.out 2
  have x3_2 : w2.cell? ⟨w.heap.size + 1, 3, none⟩ = some (.int .i64 0) := blk_cell HBX2.out 3
  have f3_2 := blk_frozen HBX2.out 3
  have a0_2 : w2.cell? _ = _ := (HB2.out.cell (World.block_lt_of_cell? w _ HX.out.1)).trans HX.out.1
  have a1_2 : w2.cell? _ = _ := (HB2.out.cell (World.block_lt_of_cell? w _ HX.out.2.1)).trans HX.out.2.1
  have a2_2 : w2.cell? _ = _ := (HB2.out.cell (World.block_lt_of_cell? w _ HX.out.2.2.1)).trans HX.out.2.2.1
  have a3_2 : w2.cell? _ = _ := (HB2.out.cell (World.block_lt_of_cell? w _ HX.out.2.2.2)).trans HX.out.2.2.2
  have b0_2 : w2.cell? _ = _ := (HB2.out.cell (World.block_lt_of_cell? w _ HY.out.1)).trans HY.out.1
  have b1_2 : w2.cell? _ = _ := (HB2.out.cell (World.block_lt_of_cell? w _ HY.out.2.1)).trans HY.out.2.1
  have b2_2 : w2.cell? _ = _ := (HB2.out.cell (World.block_lt_of_cell? w _ HY.out.2.2.1)).trans HY.out.2.2.1
  have b3_2 : w2.cell? _ = _ := (HB2.out.cell (World.block_lt_of_cell? w _ HY.out.2.2.2)).trans HY.out.2.2.2
  go_wp2_with fail
  refine (HG.out _).mono ?_
  rintro e w3 ⟨rfl, hb⟩
  clear cp2 x0_2 f0_2 x1_2 f1_2 x2_2 f2_2 x3_2 f3_2 a0_2 a1_2 a2_2 a3_2 b0_2 b1_2 b2_2 b3_2
  have HB3 : Hid (Below w.heap.size w w3) := below_step HB2.out hb
  have HBP3 : Hid (w3.heap[w.heap.size]? = some (boxP p)) := stepH HBP2.out hb
  have HBX3 : Hid (w3.heap[w.heap.size + 1]? = some zeroM) := stepH HBX2.out hb
  clear hb HB2 HBP2 HBX2
  have cp3 : w3.cell? ⟨w.heap.size, 0, none⟩ = some (.string p) := blk_cell HBP3.out 0
  have x0_3 : w3.cell? ⟨w.heap.size + 1, 0, none⟩ = some (.string ⟨#[]⟩) := blk_cell HBX3.out 0
  have f0_3 := blk_frozen HBX3.out 0
  have x1_3 : w3.cell? ⟨w.heap.size + 1, 1, none⟩ = some (.int .i64 0) := blk_cell HBX3.out 1
  have f1_3 := blk_frozen HBX3.out 1
  have x2_3 : w3.cell? ⟨w.heap.size + 1, 2, none⟩ = some (.int .i64 0) := blk_cell HBX3.out 2
  have f2_3 := blk_frozen HBX3.out 2
  have x3_3 : w3.cell? ⟨w.heap.size + 1, 3, none⟩ = some (.int .i64 0) := blk_cell HBX3.out 3
  have f3_3 := blk_frozen HBX3.out 3
  have a0_3 : w3.cell? _ = _ := (HB3.out.cell (World.block_lt_of_cell? w _ HX.out.1)).trans HX.out.1
  have a1_3 : w3.cell? _ = _ := (HB3.out.cell (World.block_lt_of_cell? w _ HX.out.2.1)).trans HX.out.2.1
  have a2_3 : w3.cell? _ = _ := (HB3.out.cell (World.block_lt_of_cell? w _ HX.out.2.2.1)).trans HX.out.2.2.1
  have a3_3 : w3.cell? _ = _ := (HB3.out.cell (World.block_lt_of_cell? w _ HX.out.2.2.2)).trans HX.out.2.2.2
  have b0_3 : w3.cell? _ = _ := (HB3.out.cell (World.block_lt_of_cell? w _ HY.out.1)).trans HY.out.1
  have b1_3 : w3.cell? _ = _ := (HB3.out.cell (World.block_lt_of_cell? w _ HY.out.2.1)).trans HY.out.2.1
  have b2_3 : w3.cell? _ = _ := (HB3.out.cell (World.block_lt_of_cell? w _ HY.out.2.2.1)).trans HY.out.2.2.1
  have b3_3 : w3.cell? _ = _ := (HB3.out.cell (World.block_lt_of_cell? w _ HY.out.2.2.2)).trans HY.out.2.2.2
  go_wp2_with fail
  refine (HF.out _ HB3.out).mono ?_
  rintro e w4 ⟨rfl, hb⟩
  clear cp3 x0_3 f0_3 x1_3 f1_3 x2_3 f2_3 x3_3 f3_3 a0_3 a1_3 a2_3 a3_3 b0_3 b1_3 b2_3 b3_3
  have HB4 : Hid (Below w.heap.size w w4) := below_step HB3.out hb
  have HBP4 : Hid (w4.heap[w.heap.size]? = some (boxP p)) := stepH HBP3.out hb
  have HBX4 : Hid (w4.heap[w.heap.size + 1]? = some zeroM) := stepH HBX3.out hb
  clear hb HB3 HBP3 HBX3
  have cp4 : w4.cell? ⟨w.heap.size, 0, none⟩ = some (.string p) := blk_cell HBP4.out 0
  have x0_4 : w4.cell? ⟨w.heap.size + 1, 0, none⟩ = some (.string ⟨#[]⟩) := blk_cell HBX4.out 0
  have f0_4 := blk_frozen HBX4.out 0
  have x1_4 : w4.cell? ⟨w.heap.size + 1, 1, none⟩ = some (.int .i64 0) := blk_cell HBX4.out 1
  have f1_4 := blk_frozen HBX4.out 1
  have x2_4 : w4.cell? ⟨w.heap.size + 1, 2, none⟩ = some (.int .i64 0) := blk_cell HBX4.out 2
  have f2_4 := blk_frozen HBX4.out 2
  have x3_4 : w4.cell? ⟨w.heap.size + 1, 3, none⟩ = some (.int .i64 0) := blk_cell HBX4.out 3
  have f3_4 := blk_frozen HBX4.out 3
  have a0_4 : w4.cell? _ = _ := (HB4.out.cell (World.block_lt_of_cell? w _ HX.out.1)).trans HX.out.1
  have a1_4 : w4.cell? _ = _ := (HB4.out.cell (World.block_lt_of_cell? w _ HX.out.2.1)).trans HX.out.2.1
  have a2_4 : w4.cell? _ = _ := (HB4.out.cell (World.block_lt_of_cell? w _ HX.out.2.2.1)).trans HX.out.2.2.1
  have a3_4 : w4.cell? _ = _ := (HB4.out.cell (World.block_lt_of_cell? w _ HX.out.2.2.2)).trans HX.out.2.2.2
  have b0_4 : w4.cell? _ = _ := (HB4.out.cell (World.block_lt_of_cell? w _ HY.out.1)).trans HY.out.1
  have b1_4 : w4.cell? _ = _ := (HB4.out.cell (World.block_lt_of_cell? w _ HY.out.2.1)).trans HY.out.2.1
  have b2_4 : w4.cell? _ = _ := (HB4.out.cell (World.block_lt_of_cell? w _ HY.out.2.2.1)).trans HY.out.2.2.1
  have b3_4 : w4.cell? _ = _ := (HB4.out.cell (World.block_lt_of_cell? w _ HY.out.2.2.2)).trans HY.out.2.2.2
  go_wp2_with fail
  refine (HM.out _).mono ?_
  rintro e w5 ⟨rfl, hb⟩
  clear cp4 x0_4 f0_4 x1_4 f1_4 x2_4 f2_4 x3_4 f3_4 a0_4 a1_4 a2_4 a3_4 b0_4 b1_4 b2_4 b3_4
  have HB5 : Hid (Below w.heap.size w w5) := below_step HB4.out hb
  have HBP5 : Hid (w5.heap[w.heap.size]? = some (boxP p)) := stepH HBP4.out hb
  have HBX5 : Hid (w5.heap[w.heap.size + 1]? = some zeroM) := stepH HBX4.out hb
  clear hb HB4 HBP4 HBX4
  have cp5 : w5.cell? ⟨w.heap.size, 0, none⟩ = some (.string p) := blk_cell HBP5.out 0
  have x0_5 : w5.cell? ⟨w.heap.size + 1, 0, none⟩ = some (.string ⟨#[]⟩) := blk_cell HBX5.out 0
  have f0_5 := blk_frozen HBX5.out 0
  have x1_5 : w5.cell? ⟨w.heap.size + 1, 1, none⟩ = some (.int .i64 0) := blk_cell HBX5.out 1
  have f1_5 := blk_frozen HBX5.out 1
  have x2_5 : w5.cell? ⟨w.heap.size + 1, 2, none⟩ = some (.int .i64 0) := blk_cell HBX5.out 2
  have f2_5 := blk_frozen HBX5.out 2
  have x3_5 : w5.cell? ⟨w.heap.size + 1, 3, none⟩ = some (.int .i64 0) := blk_cell HBX5.out 3
  have f3_5 := blk_frozen HBX5.out 3
  have a0_5 : w5.cell? _ = _ := (HB5.out.cell (World.block_lt_of_cell? w _ HX.out.1)).trans HX.out.1
  have a1_5 : w5.cell? _ = _ := (HB5.out.cell (World.block_lt_of_cell? w _ HX.out.2.1)).trans HX.out.2.1
  have a2_5 : w5.cell? _ = _ := (HB5.out.cell (World.block_lt_of_cell? w _ HX.out.2.2.1)).trans HX.out.2.2.1
  have a3_5 : w5.cell? _ = _ := (HB5.out.cell (World.block_lt_of_cell? w _ HX.out.2.2.2)).trans HX.out.2.2.2
  have b0_5 : w5.cell? _ = _ := (HB5.out.cell (World.block_lt_of_cell? w _ HY.out.1)).trans HY.out.1
  have b1_5 : w5.cell? _ = _ := (HB5.out.cell (World.block_lt_of_cell? w _ HY.out.2.1)).trans HY.out.2.1
  have b2_5 : w5.cell? _ = _ := (HB5.out.cell (World.block_lt_of_cell? w _ HY.out.2.2.1)).trans HY.out.2.2.1
  have b3_5 : w5.cell? _ = _ := (HB5.out.cell (World.block_lt_of_cell? w _ HY.out.2.2.2)).trans HY.out.2.2.2
  go_wp2_with fail
  refine (HBU.out _ _ HBP5.out HB5.out).mono ?_
  rintro e w6 ⟨rfl, hb⟩
  clear cp5 x0_5 f0_5 x1_5 f1_5 x2_5 f2_5 x3_5 f3_5 a0_5 a1_5 a2_5 a3_5 b0_5 b1_5 b2_5 b3_5
  have HB6 : Hid (Below w.heap.size w w6) := below_step HB5.out hb
  have HBP6 : Hid (w6.heap[w.heap.size]? = some (boxP p)) := stepH HBP5.out hb
  have HBX6 : Hid (w6.heap[w.heap.size + 1]? = some zeroM) := stepH HBX5.out hb
  clear hb HB5 HBP5 HBX5
  have cp6 : w6.cell? ⟨w.heap.size, 0, none⟩ = some (.string p) := blk_cell HBP6.out 0
  have x0_6 : w6.cell? ⟨w.heap.size + 1, 0, none⟩ = some (.string ⟨#[]⟩) := blk_cell HBX6.out 0
  have f0_6 := blk_frozen HBX6.out 0
  have x1_6 : w6.cell? ⟨w.heap.size + 1, 1, none⟩ = some (.int .i64 0) := blk_cell HBX6.out 1
  have f1_6 := blk_frozen HBX6.out 1
  have x2_6 : w6.cell? ⟨w.heap.size + 1, 2, none⟩ = some (.int .i64 0) := blk_cell HBX6.out 2
  have f2_6 := blk_frozen HBX6.out 2
  have x3_6 : w6.cell? ⟨w.heap.size + 1, 3, none⟩ = some (.int .i64 0) := blk_cell HBX6.out 3
  have f3_6 := blk_frozen HBX6.out 3
  have a0_6 : w6.cell? _ = _ := (HB6.out.cell (World.block_lt_of_cell? w _ HX.out.1)).trans HX.out.1
  have a1_6 : w6.cell? _ = _ := (HB6.out.cell (World.block_lt_of_cell? w _ HX.out.2.1)).trans HX.out.2.1
  have a2_6 : w6.cell? _ = _ := (HB6.out.cell (World.block_lt_of_cell? w _ HX.out.2.2.1)).trans HX.out.2.2.1
  have a3_6 : w6.cell? _ = _ := (HB6.out.cell (World.block_lt_of_cell? w _ HX.out.2.2.2)).trans HX.out.2.2.2
  have b0_6 : w6.cell? _ = _ := (HB6.out.cell (World.block_lt_of_cell? w _ HY.out.1)).trans HY.out.1
  have b1_6 : w6.cell? _ = _ := (HB6.out.cell (World.block_lt_of_cell? w _ HY.out.2.1)).trans HY.out.2.1
  have b2_6 : w6.cell? _ = _ := (HB6.out.cell (World.block_lt_of_cell? w _ HY.out.2.2.1)).trans HY.out.2.2.1
  have b3_6 : w6.cell? _ = _ := (HB6.out.cell (World.block_lt_of_cell? w _ HY.out.2.2.2)).trans HY.out.2.2.2
  go_wp2_with fail
  refine (HOF.out _ HB6.out).mono ?_
  rintro e w7 ⟨rfl, hb⟩
  clear cp6 x0_6 f0_6 x1_6 f1_6 x2_6 f2_6 x3_6 f3_6 a0_6 a1_6 a2_6 a3_6 b0_6 b1_6 b2_6 b3_6
  have HB7 : Hid (Below w.heap.size w w7) := below_step HB6.out hb
  have HBP7 : Hid (w7.heap[w.heap.size]? = some (boxP p)) := stepH HBP6.out hb
  have HBX7 : Hid (w7.heap[w.heap.size + 1]? = some zeroM) := stepH HBX6.out hb
  clear hb HB6 HBP6 HBX6
  have cp7 : w7.cell? ⟨w.heap.size, 0, none⟩ = some (.string p) := blk_cell HBP7.out 0
  have x0_7 : w7.cell? ⟨w.heap.size + 1, 0, none⟩ = some (.string ⟨#[]⟩) := blk_cell HBX7.out 0
  have f0_7 := blk_frozen HBX7.out 0
  have x1_7 : w7.cell? ⟨w.heap.size + 1, 1, none⟩ = some (.int .i64 0) := blk_cell HBX7.out 1
  have f1_7 := blk_frozen HBX7.out 1
  have x2_7 : w7.cell? ⟨w.heap.size + 1, 2, none⟩ = some (.int .i64 0) := blk_cell HBX7.out 2
  have f2_7 := blk_frozen HBX7.out 2
  have x3_7 : w7.cell? ⟨w.heap.size + 1, 3, none⟩ = some (.int .i64 0) := blk_cell HBX7.out 3
  have f3_7 := blk_frozen HBX7.out 3
  have a0_7 : w7.cell? _ = _ := (HB7.out.cell (World.block_lt_of_cell? w _ HX.out.1)).trans HX.out.1
  have a1_7 : w7.cell? _ = _ := (HB7.out.cell (World.block_lt_of_cell? w _ HX.out.2.1)).trans HX.out.2.1
  have a2_7 : w7.cell? _ = _ := (HB7.out.cell (World.block_lt_of_cell? w _ HX.out.2.2.1)).trans HX.out.2.2.1
  have a3_7 : w7.cell? _ = _ := (HB7.out.cell (World.block_lt_of_cell? w _ HX.out.2.2.2)).trans HX.out.2.2.2
  have b0_7 : w7.cell? _ = _ := (HB7.out.cell (World.block_lt_of_cell? w _ HY.out.1)).trans HY.out.1
  have b1_7 : w7.cell? _ = _ := (HB7.out.cell (World.block_lt_of_cell? w _ HY.out.2.1)).trans HY.out.2.1
  have b2_7 : w7.cell? _ = _ := (HB7.out.cell (World.block_lt_of_cell? w _ HY.out.2.2.1)).trans HY.out.2.2.1
  have b3_7 : w7.cell? _ = _ := (HB7.out.cell (World.block_lt_of_cell? w _ HY.out.2.2.2)).trans HY.out.2.2.2
  have g0 := blk_lt HBP7.out
  have g1 := blk_lt HBX7.out
  go_wp2_with fail
  refine (HCL.out _ (by repeat (first | exact HB7.out | refine below_alloc ?_ _ | refine Below.setCell ?_ (Nat.le_of_lt g0) _))).mono ?_
  rintro e w8 ⟨v, rfl, ho, hb⟩
  have HB8 : Hid (Below w.heap.size w w8) := below_step (below_alloc HB7.out _) hb
  have hX : w8.heap[w.heap.size + 1]? = some zeroM := stepH ((Below.heap_alloc w7 _ _ g1).trans HBX7.out) hb
  have hsz : (w7.alloc (.cells (enc ⟨p, y.f1, y.f2, d⟩).toArray 27)).heap.size = w7.heap.size + 1 := by show (w7.heap.push _).size = _; simp
  have hZ : w8.heap[w7.heap.size]? = some (.cells (enc ⟨p, y.f1, y.f2, d⟩).toArray 27 (0, 0)) := stepH (W := w7.alloc (.cells (enc ⟨p, y.f1, y.f2, d⟩).toArray 27)) (by show (w7.heap.push _)[w7.heap.size]? = _; simp) hb
  have hbs := hb.size
  rw [hsz] at ho hbs
  have HO := Lib.hid ho
  have HX7 := Lib.hid hX
  have HZ7 := Lib.hid hZ
  have hB7 := HB7.out.size
  clear hb hsz ho hX hZ
  clear cp7 x0_7 f0_7 x1_7 f1_7 x2_7 f2_7 x3_7 f3_7 a0_7 a1_7 a2_7 a3_7 b0_7 b1_7 b2_7 b3_7
  clear HB7 HBP7 HBX7
  obtain ⟨Z, hZe⟩ : ∃ Z, w7.heap.size = Z := ⟨_, rfl⟩
  rw [hZe] at HO HZ7 hbs g0 g1 hB7 ⊢
  clear hZe
  have z0 : w8.cell? ⟨Z, 0, none⟩ = some (.string p) := blk_cell HZ7.out 0
  have z1 : w8.cell? ⟨Z, 1, none⟩ = some (.int .i64 y.f1) := blk_cell HZ7.out 1
  have z2 : w8.cell? ⟨Z, 2, none⟩ = some (.int .i64 y.f2) := blk_cell HZ7.out 2
  have z3 : w8.cell? ⟨Z, 3, none⟩ = some (.int .i64 d) := blk_cell HZ7.out 3
  have x0 : w8.cell? ⟨w.heap.size + 1, 0, none⟩ = some (.string ⟨#[]⟩) := blk_cell HX7.out 0
  have f0 := blk_frozen HX7.out 0
  have x1 : w8.cell? ⟨w.heap.size + 1, 1, none⟩ = some (.int .i64 0) := blk_cell HX7.out 1
  have f1 := blk_frozen HX7.out 1
  have x2 : w8.cell? ⟨w.heap.size + 1, 2, none⟩ = some (.int .i64 0) := blk_cell HX7.out 2
  have f2 := blk_frozen HX7.out 2
  have x3 : w8.cell? ⟨w.heap.size + 1, 3, none⟩ = some (.int .i64 0) := blk_cell HX7.out 3
  have f3 := blk_frozen HX7.out 3
  have hnp : 0 < l.length := by have := HN.out; omega
  obtain ⟨g, cap, cur, rfl, hg, hnc, hcap, hh⟩ := R_form HO.out hnp
  obtain ⟨ad3, ea3, hc0, hc1, hc2, hc3⟩ := at_T27 (Kd.R_reads' HO.out).2.2 (i : Nat) (by omega) (by have := HN.out; omega)
  cases ea3
  simp only [Int.toNat_natCast, Addr.add_lit, Nat.zero_add] at hc0 hc1 hc2 hc3
  have r0 := blk_frozen hh (i * 4)
  have r1 := blk_frozen hh (i * 4 + 1)
  have r2 := blk_frozen hh (i * 4 + 2)
  have r3 := blk_frozen hh (i * 4 + 3)
  have HH := Lib.hid hh
  have hgN : g ≠ w.heap.size + 1 := by omega
  have hgZ : g ≠ Z := by omega
  clear hh
  have HN2 := HN.out
  rw [HN2] at *
  go_wp2_with fail
  go_region
  go_wp2_with fail
  have hil : i < l.length := by omega
  have H8 := store_R ⟨p, y.f1, y.f2, d⟩ HO.out hil
  have HX8 : (w8.setCells g (i * 4) (enc ⟨p, y.f1, y.f2, d⟩)).heap[w.heap.size + 1]? = some zeroM := (setCells_far _ _ _ (Ne.symm hgN)).trans HX7.out
  have H9 := Kd.R_mono (ok' := fun k => Z + 1 ≤ k) (Kd.R_bound H8) (fun k hk => hk.2.1)
  have hgB : w.heap.size ≤ g := by omega
  have hfar : ∀ k, Z + 1 ≤ k → k ≠ w.heap.size + 1 := fun k hk => by omega
  refine bodyPost_ret (results_list (rs := [.tmp 6, .cell 7 27, .tmp 8]) rfl (by simp) (.tmp (.cell (w.heap.size + 1) 27 _ (0, 0) _ rfl (setXd HX8 _ _ _ _) Try.underlying27 rfl (by kernel_rfl) (.tmp .nil)))) rfl ?_
  rw [HN.out] at H9
  have H10 := Kd.R_far (p := ⟨w.heap.size + 1, 3, none⟩) (Kd.R_far (p := ⟨w.heap.size + 1, 2, none⟩) (Kd.R_far (p := ⟨w.heap.size + 1, 1, none⟩) (Kd.R_far (p := ⟨w.heap.size + 1, 0, none⟩) H9 hfar (.string p)) hfar (.int .i64 y.f1)) hfar (.int .i64 y.f2)) hfar (.int .i64 d)
  have hN1 : w.heap.size ≤ w.heap.size + 1 := Nat.le_succ _
  have hV := Kd.R_V (base' := w.heap.size) (Kd.R_mono (ok' := fun k => P0 k ∨ w.heap.size ≤ k) (Kd.R_drew H10) (fun k hk => .inr (by omega)))
  have b1 := Below.setCell (p := ⟨g, i * 4, none⟩) HB8.out hgB (.string p)
  have b2 := Below.setCell (p := ⟨g, i * 4 + 1, none⟩) b1 hgB (.int .i64 y.f1)
  have b3 := Below.setCell (p := ⟨g, i * 4 + 2, none⟩) b2 hgB (.int .i64 y.f2)
  have b4 := Below.setCell (p := ⟨g, i * 4 + 3, none⟩) b3 hgB (.int .i64 d)
  have b5 := Below.setCell (p := ⟨w.heap.size + 1, 0, none⟩) b4 hN1 (.string p)
  have b6 := Below.setCell (p := ⟨w.heap.size + 1, 1, none⟩) b5 hN1 (.int .i64 y.f1)
  have b7 := Below.setCell (p := ⟨w.heap.size + 1, 2, none⟩) b6 hN1 (.int .i64 y.f2)
  have b8 := Below.drew (Below.setCell (p := ⟨w.heap.size + 1, 3, none⟩) b7 hN1 (.int .i64 d))
  exact ⟨_, rfl, hV, b8⟩

set_option maxHeartbeats 8000000 in
set_option maxRecDepth 100000 in
theorem begin_new_C (P0 : Nat → Prop) (A : Option Addr) (c : Nat) (l : List S27) (p : ByteArray) (d : Int) (j : Nat) (w : World) (hv : Kd.V k27 27 w w.heap.size P0 (.slice A l.length c) l) (hr : Kd.C k27 w A l.length l) (hc : l.length ≤ c)
    (h1 : mounts_Right.f (l.length + 10) l = some true) (h2 : path_Right.f p = some true) (h3 : mounts_group.f d = some true) (h32 : l.length ≤ 32) (hall : l.all (inOk p) = true) (hof : mounts_Of.f (kOf l) l p = some (j : Int)) (hj : j < l.length) (ho : own_ p l = true) (hm : movB (rd_T27 l (at_ p l : Nat)) = true) (hq : ((rd_T27 l (at_ p l : Nat)).f3 == d) = false) (hbu : l.any (busyB p) = false) (hz : ((rd_T27 l (j : Nat)).f1 == d) = false ∧ ((rd_T27 l (j : Nat)).f2 == 281474976710656) = false) :
    Calls Try.prog 12 #[.slice A l.length c, .string p, .int .i64 d] w (Post w P0 (l.set (at_ p l) ⟨p, (rd_T27 l (j : Nat)).f1, (rd_T27 l (j : Nat)).f2, d⟩) p (rd_T27 l (j : Nat)).f1 (rd_T27 l (j : Nat)).f2 d 0) := by
  have HR := Lib.hid (fun W (hW : Below w.heap.size w W) => mounts_Right.calls (l.length + 10) A c l true W (Kd.C_below hr hW) hc h1)
  have HP := Lib.hid (fun W => path_Right.calls p true W h2)
  have HG := Lib.hid (fun W => (mounts_group.calls d true W h3).mono (fun e w' (h : _ ∧ _) => And.intro h.1 h.2.below))
  have HF := Lib.hid (fun W (hW : Below w.heap.size w W) => find_calls A c l p W (Kd.C_below hr hW) (by omega))
  have HBU := Lib.hid (fun W g (hg : W.heap[g]? = some (.cells #[.string p] 9 (0, 0))) (hW : Below w.heap.size w W) => IMount.contains_calls 28 #[.pointer (some ⟨g, 0, none⟩)] (enters_of Try.func28 (by kernel_rfl) rfl) (busyB p) A c l W (busy_pred p g l W hall hg) (Kd.C_below hr hW) (by omega))
  have HOF := Lib.hid (fun W (hW : Below w.heap.size w W) => mounts_Of.calls (kOf l) A c l p (j : Int) W (Kd.C_below hr hW) hc hof)
  obtain ⟨ad, ea, hy0, hy1, hy2, hy3⟩ := at_T27 hr (j : Nat) (by omega) (by omega)
  simp only [Int.toNat_natCast] at hy0 hy1 hy2 hy3
  have HV := Lib.hid hv
  rw [ho] at HF
  rw [hbu] at HBU
  have hlt : at_ p l < l.length := by
    have : (decide (at_ p l < l.length) && decide (cmpP p (rd_T27 l (at_ p l : Nat)) = 0)) = true := ho
    simp at this
    exact this.1
  obtain ⟨ad2, ea2, hx0, hx1, hx2, hx3⟩ := at_T27 hr (at_ p l : Nat) (by omega) (by omega)
  simp only [Int.toNat_natCast] at hx0 hx1 hx2 hx3
  obtain rfl : ad = ad2 := Option.some.inj (ea.symm.trans ea2)
  have HLE := Lib.hid (at_le p l)
  obtain ⟨i, hi⟩ : ∃ i, at_ p l = i := ⟨_, rfl⟩
  rw [hi] at HF HLE hx0 hx1 hx2 hx3 hlt hm hq
  (try rw [hi])
  obtain ⟨x, hxx⟩ : ∃ x, rd_T27 l (i : Nat) = x := ⟨_, rfl⟩
  rw [hxx] at hx0 hx1 hx2 hx3 hm hq
  have HX := Lib.hid (And.intro hx0 (And.intro hx1 (And.intro hx2 hx3)))
  obtain ⟨mv, hmv⟩ : ∃ mv, movB x = mv := ⟨_, rfl⟩
  have HM := Lib.hid (fun W => moves_is x mv hmv W)
  rw [hmv] at hm
  obtain ⟨y, hyy⟩ : ∃ y, rd_T27 l (j : Nat) = y := ⟨_, rfl⟩
  rw [hyy] at hy0 hy1 hy2 hy3 hz
  (try rw [hyy])
  have HY := Lib.hid (And.intro hy0 (And.intro hy1 (And.intro hy2 hy3)))
  have HCL := Lib.hid (fun W (hW : Below w.heap.size w W) => CMount.clone_calls A c l W (Kd.C_below hr hW) (by omega))
  obtain ⟨n, hn⟩ : ∃ n, l.length = n := ⟨_, rfl⟩
  have HN := Lib.hid hn
  rw [hn] at HCL HR HF HBU HOF HV hj h32 hlt ⊢
  have hjz : (j : Int) < (n : Int) := by omega
  clear hr hc h1 h2 h3 ho hv hy0 hy1 hy2 hy3 hi hyy hof hall hbu hx0 hx1 hx2 hx3 hxx hmv ea2
  cases ea
  
  have hlz : (i : Int) < (n : Int) := by omega
  
  subst hm
  obtain ⟨hz1, hz2⟩ := hz
  go_enter Try.func12, Try.ntmps12
  go_wp2_with fail
  refine (HR.out _ (by repeat (first | exact Below.refl _ _ | apply below_alloc))).mono ?_
  rintro e w1 ⟨rfl, hb1⟩
  obtain ⟨hB, hP, hX⟩ := start1 hb1
  have HB1 := Lib.hid hB
  have HBP1 : Hid (w1.heap[w.heap.size]? = some (boxP p)) := hP
  have HBX1 : Hid (w1.heap[w.heap.size + 1]? = some zeroM) := hX
  clear hb1 hB hP hX
  have cp1 : w1.cell? ⟨w.heap.size, 0, none⟩ = some (.string p) := blk_cell HBP1.out 0
  have x0_1 : w1.cell? ⟨w.heap.size + 1, 0, none⟩ = some (.string ⟨#[]⟩) := blk_cell HBX1.out 0
  have f0_1 := blk_frozen HBX1.out 0
  have x1_1 : w1.cell? ⟨w.heap.size + 1, 1, none⟩ = some (.int .i64 0) := blk_cell HBX1.out 1
  have f1_1 := blk_frozen HBX1.out 1
  have x2_1 : w1.cell? ⟨w.heap.size + 1, 2, none⟩ = some (.int .i64 0) := blk_cell HBX1.out 2
  have f2_1 := blk_frozen HBX1.out 2
  have x3_1 : w1.cell? ⟨w.heap.size + 1, 3, none⟩ = some (.int .i64 0) := blk_cell HBX1.out 3
  have f3_1 := blk_frozen HBX1.out 3
  have a0_1 : w1.cell? _ = _ := (HB1.out.cell (World.block_lt_of_cell? w _ HX.out.1)).trans HX.out.1
  have a1_1 : w1.cell? _ = _ := (HB1.out.cell (World.block_lt_of_cell? w _ HX.out.2.1)).trans HX.out.2.1
  have a2_1 : w1.cell? _ = _ := (HB1.out.cell (World.block_lt_of_cell? w _ HX.out.2.2.1)).trans HX.out.2.2.1
  have a3_1 : w1.cell? _ = _ := (HB1.out.cell (World.block_lt_of_cell? w _ HX.out.2.2.2)).trans HX.out.2.2.2
  have b0_1 : w1.cell? _ = _ := (HB1.out.cell (World.block_lt_of_cell? w _ HY.out.1)).trans HY.out.1
  have b1_1 : w1.cell? _ = _ := (HB1.out.cell (World.block_lt_of_cell? w _ HY.out.2.1)).trans HY.out.2.1
  have b2_1 : w1.cell? _ = _ := (HB1.out.cell (World.block_lt_of_cell? w _ HY.out.2.2.1)).trans HY.out.2.2.1
  have b3_1 : w1.cell? _ = _ := (HB1.out.cell (World.block_lt_of_cell? w _ HY.out.2.2.2)).trans HY.out.2.2.2
  go_wp2_with fail
  refine (HP.out _).mono ?_
  rintro e w2 ⟨rfl, hb⟩
  clear cp1 x0_1 f0_1 x1_1 f1_1 x2_1 f2_1 x3_1 f3_1 a0_1 a1_1 a2_1 a3_1 b0_1 b1_1 b2_1 b3_1
  have HB2 : Hid (Below w.heap.size w w2) := below_step HB1.out hb
  have HBP2 : Hid (w2.heap[w.heap.size]? = some (boxP p)) := stepH HBP1.out hb
  have HBX2 : Hid (w2.heap[w.heap.size + 1]? = some zeroM) := stepH HBX1.out hb
  clear hb HB1 HBP1 HBX1
  have cp2 : w2.cell? ⟨w.heap.size, 0, none⟩ = some (.string p) := blk_cell HBP2.out 0
  have x0_2 : w2.cell? ⟨w.heap.size + 1, 0, none⟩ = some (.string ⟨#[]⟩) := blk_cell HBX2.out 0
  have f0_2 := blk_frozen HBX2.out 0
  have x1_2 : w2.cell? ⟨w.heap.size + 1, 1, none⟩ = some (.int .i64 0) := blk_cell HBX2.out 1
  have f1_2 := blk_frozen HBX2.out 1
  have x2_2 : w2.cell? ⟨w.heap.size + 1, 2, none⟩ = some (.int .i64 0) := blk_cell HBX2.out 2
  have f2_2 := blk_frozen HBX2.out 2
  have x3_2 : w2.cell? ⟨w.heap.size + 1, 3, none⟩ = some (.int .i64 0) := blk_cell HBX2.out 3
  have f3_2 := blk_frozen HBX2.out 3
  have a0_2 : w2.cell? _ = _ := (HB2.out.cell (World.block_lt_of_cell? w _ HX.out.1)).trans HX.out.1
  have a1_2 : w2.cell? _ = _ := (HB2.out.cell (World.block_lt_of_cell? w _ HX.out.2.1)).trans HX.out.2.1
  have a2_2 : w2.cell? _ = _ := (HB2.out.cell (World.block_lt_of_cell? w _ HX.out.2.2.1)).trans HX.out.2.2.1
  have a3_2 : w2.cell? _ = _ := (HB2.out.cell (World.block_lt_of_cell? w _ HX.out.2.2.2)).trans HX.out.2.2.2
  have b0_2 : w2.cell? _ = _ := (HB2.out.cell (World.block_lt_of_cell? w _ HY.out.1)).trans HY.out.1
  have b1_2 : w2.cell? _ = _ := (HB2.out.cell (World.block_lt_of_cell? w _ HY.out.2.1)).trans HY.out.2.1
  have b2_2 : w2.cell? _ = _ := (HB2.out.cell (World.block_lt_of_cell? w _ HY.out.2.2.1)).trans HY.out.2.2.1
  have b3_2 : w2.cell? _ = _ := (HB2.out.cell (World.block_lt_of_cell? w _ HY.out.2.2.2)).trans HY.out.2.2.2
  go_wp2_with fail
  refine (HG.out _).mono ?_
  rintro e w3 ⟨rfl, hb⟩
  clear cp2 x0_2 f0_2 x1_2 f1_2 x2_2 f2_2 x3_2 f3_2 a0_2 a1_2 a2_2 a3_2 b0_2 b1_2 b2_2 b3_2
  have HB3 : Hid (Below w.heap.size w w3) := below_step HB2.out hb
  have HBP3 : Hid (w3.heap[w.heap.size]? = some (boxP p)) := stepH HBP2.out hb
  have HBX3 : Hid (w3.heap[w.heap.size + 1]? = some zeroM) := stepH HBX2.out hb
  clear hb HB2 HBP2 HBX2
  have cp3 : w3.cell? ⟨w.heap.size, 0, none⟩ = some (.string p) := blk_cell HBP3.out 0
  have x0_3 : w3.cell? ⟨w.heap.size + 1, 0, none⟩ = some (.string ⟨#[]⟩) := blk_cell HBX3.out 0
  have f0_3 := blk_frozen HBX3.out 0
  have x1_3 : w3.cell? ⟨w.heap.size + 1, 1, none⟩ = some (.int .i64 0) := blk_cell HBX3.out 1
  have f1_3 := blk_frozen HBX3.out 1
  have x2_3 : w3.cell? ⟨w.heap.size + 1, 2, none⟩ = some (.int .i64 0) := blk_cell HBX3.out 2
  have f2_3 := blk_frozen HBX3.out 2
  have x3_3 : w3.cell? ⟨w.heap.size + 1, 3, none⟩ = some (.int .i64 0) := blk_cell HBX3.out 3
  have f3_3 := blk_frozen HBX3.out 3
  have a0_3 : w3.cell? _ = _ := (HB3.out.cell (World.block_lt_of_cell? w _ HX.out.1)).trans HX.out.1
  have a1_3 : w3.cell? _ = _ := (HB3.out.cell (World.block_lt_of_cell? w _ HX.out.2.1)).trans HX.out.2.1
  have a2_3 : w3.cell? _ = _ := (HB3.out.cell (World.block_lt_of_cell? w _ HX.out.2.2.1)).trans HX.out.2.2.1
  have a3_3 : w3.cell? _ = _ := (HB3.out.cell (World.block_lt_of_cell? w _ HX.out.2.2.2)).trans HX.out.2.2.2
  have b0_3 : w3.cell? _ = _ := (HB3.out.cell (World.block_lt_of_cell? w _ HY.out.1)).trans HY.out.1
  have b1_3 : w3.cell? _ = _ := (HB3.out.cell (World.block_lt_of_cell? w _ HY.out.2.1)).trans HY.out.2.1
  have b2_3 : w3.cell? _ = _ := (HB3.out.cell (World.block_lt_of_cell? w _ HY.out.2.2.1)).trans HY.out.2.2.1
  have b3_3 : w3.cell? _ = _ := (HB3.out.cell (World.block_lt_of_cell? w _ HY.out.2.2.2)).trans HY.out.2.2.2
  go_wp2_with fail
  refine (HF.out _ HB3.out).mono ?_
  rintro e w4 ⟨rfl, hb⟩
  clear cp3 x0_3 f0_3 x1_3 f1_3 x2_3 f2_3 x3_3 f3_3 a0_3 a1_3 a2_3 a3_3 b0_3 b1_3 b2_3 b3_3
  have HB4 : Hid (Below w.heap.size w w4) := below_step HB3.out hb
  have HBP4 : Hid (w4.heap[w.heap.size]? = some (boxP p)) := stepH HBP3.out hb
  have HBX4 : Hid (w4.heap[w.heap.size + 1]? = some zeroM) := stepH HBX3.out hb
  clear hb HB3 HBP3 HBX3
  have cp4 : w4.cell? ⟨w.heap.size, 0, none⟩ = some (.string p) := blk_cell HBP4.out 0
  have x0_4 : w4.cell? ⟨w.heap.size + 1, 0, none⟩ = some (.string ⟨#[]⟩) := blk_cell HBX4.out 0
  have f0_4 := blk_frozen HBX4.out 0
  have x1_4 : w4.cell? ⟨w.heap.size + 1, 1, none⟩ = some (.int .i64 0) := blk_cell HBX4.out 1
  have f1_4 := blk_frozen HBX4.out 1
  have x2_4 : w4.cell? ⟨w.heap.size + 1, 2, none⟩ = some (.int .i64 0) := blk_cell HBX4.out 2
  have f2_4 := blk_frozen HBX4.out 2
  have x3_4 : w4.cell? ⟨w.heap.size + 1, 3, none⟩ = some (.int .i64 0) := blk_cell HBX4.out 3
  have f3_4 := blk_frozen HBX4.out 3
  have a0_4 : w4.cell? _ = _ := (HB4.out.cell (World.block_lt_of_cell? w _ HX.out.1)).trans HX.out.1
  have a1_4 : w4.cell? _ = _ := (HB4.out.cell (World.block_lt_of_cell? w _ HX.out.2.1)).trans HX.out.2.1
  have a2_4 : w4.cell? _ = _ := (HB4.out.cell (World.block_lt_of_cell? w _ HX.out.2.2.1)).trans HX.out.2.2.1
  have a3_4 : w4.cell? _ = _ := (HB4.out.cell (World.block_lt_of_cell? w _ HX.out.2.2.2)).trans HX.out.2.2.2
  have b0_4 : w4.cell? _ = _ := (HB4.out.cell (World.block_lt_of_cell? w _ HY.out.1)).trans HY.out.1
  have b1_4 : w4.cell? _ = _ := (HB4.out.cell (World.block_lt_of_cell? w _ HY.out.2.1)).trans HY.out.2.1
  have b2_4 : w4.cell? _ = _ := (HB4.out.cell (World.block_lt_of_cell? w _ HY.out.2.2.1)).trans HY.out.2.2.1
  have b3_4 : w4.cell? _ = _ := (HB4.out.cell (World.block_lt_of_cell? w _ HY.out.2.2.2)).trans HY.out.2.2.2
  go_wp2_with fail
  refine (HM.out _).mono ?_
  rintro e w5 ⟨rfl, hb⟩
  clear cp4 x0_4 f0_4 x1_4 f1_4 x2_4 f2_4 x3_4 f3_4 a0_4 a1_4 a2_4 a3_4 b0_4 b1_4 b2_4 b3_4
  have HB5 : Hid (Below w.heap.size w w5) := below_step HB4.out hb
  have HBP5 : Hid (w5.heap[w.heap.size]? = some (boxP p)) := stepH HBP4.out hb
  have HBX5 : Hid (w5.heap[w.heap.size + 1]? = some zeroM) := stepH HBX4.out hb
  clear hb HB4 HBP4 HBX4
  have cp5 : w5.cell? ⟨w.heap.size, 0, none⟩ = some (.string p) := blk_cell HBP5.out 0
  have x0_5 : w5.cell? ⟨w.heap.size + 1, 0, none⟩ = some (.string ⟨#[]⟩) := blk_cell HBX5.out 0
  have f0_5 := blk_frozen HBX5.out 0
  have x1_5 : w5.cell? ⟨w.heap.size + 1, 1, none⟩ = some (.int .i64 0) := blk_cell HBX5.out 1
  have f1_5 := blk_frozen HBX5.out 1
  have x2_5 : w5.cell? ⟨w.heap.size + 1, 2, none⟩ = some (.int .i64 0) := blk_cell HBX5.out 2
  have f2_5 := blk_frozen HBX5.out 2
  have x3_5 : w5.cell? ⟨w.heap.size + 1, 3, none⟩ = some (.int .i64 0) := blk_cell HBX5.out 3
  have f3_5 := blk_frozen HBX5.out 3
  have a0_5 : w5.cell? _ = _ := (HB5.out.cell (World.block_lt_of_cell? w _ HX.out.1)).trans HX.out.1
  have a1_5 : w5.cell? _ = _ := (HB5.out.cell (World.block_lt_of_cell? w _ HX.out.2.1)).trans HX.out.2.1
  have a2_5 : w5.cell? _ = _ := (HB5.out.cell (World.block_lt_of_cell? w _ HX.out.2.2.1)).trans HX.out.2.2.1
  have a3_5 : w5.cell? _ = _ := (HB5.out.cell (World.block_lt_of_cell? w _ HX.out.2.2.2)).trans HX.out.2.2.2
  have b0_5 : w5.cell? _ = _ := (HB5.out.cell (World.block_lt_of_cell? w _ HY.out.1)).trans HY.out.1
  have b1_5 : w5.cell? _ = _ := (HB5.out.cell (World.block_lt_of_cell? w _ HY.out.2.1)).trans HY.out.2.1
  have b2_5 : w5.cell? _ = _ := (HB5.out.cell (World.block_lt_of_cell? w _ HY.out.2.2.1)).trans HY.out.2.2.1
  have b3_5 : w5.cell? _ = _ := (HB5.out.cell (World.block_lt_of_cell? w _ HY.out.2.2.2)).trans HY.out.2.2.2
  go_wp2_with fail
  refine (HBU.out _ _ HBP5.out HB5.out).mono ?_
  rintro e w6 ⟨rfl, hb⟩
  clear cp5 x0_5 f0_5 x1_5 f1_5 x2_5 f2_5 x3_5 f3_5 a0_5 a1_5 a2_5 a3_5 b0_5 b1_5 b2_5 b3_5
  have HB6 : Hid (Below w.heap.size w w6) := below_step HB5.out hb
  have HBP6 : Hid (w6.heap[w.heap.size]? = some (boxP p)) := stepH HBP5.out hb
  have HBX6 : Hid (w6.heap[w.heap.size + 1]? = some zeroM) := stepH HBX5.out hb
  clear hb HB5 HBP5 HBX5
  have cp6 : w6.cell? ⟨w.heap.size, 0, none⟩ = some (.string p) := blk_cell HBP6.out 0
  have x0_6 : w6.cell? ⟨w.heap.size + 1, 0, none⟩ = some (.string ⟨#[]⟩) := blk_cell HBX6.out 0
  have f0_6 := blk_frozen HBX6.out 0
  have x1_6 : w6.cell? ⟨w.heap.size + 1, 1, none⟩ = some (.int .i64 0) := blk_cell HBX6.out 1
  have f1_6 := blk_frozen HBX6.out 1
  have x2_6 : w6.cell? ⟨w.heap.size + 1, 2, none⟩ = some (.int .i64 0) := blk_cell HBX6.out 2
  have f2_6 := blk_frozen HBX6.out 2
  have x3_6 : w6.cell? ⟨w.heap.size + 1, 3, none⟩ = some (.int .i64 0) := blk_cell HBX6.out 3
  have f3_6 := blk_frozen HBX6.out 3
  have a0_6 : w6.cell? _ = _ := (HB6.out.cell (World.block_lt_of_cell? w _ HX.out.1)).trans HX.out.1
  have a1_6 : w6.cell? _ = _ := (HB6.out.cell (World.block_lt_of_cell? w _ HX.out.2.1)).trans HX.out.2.1
  have a2_6 : w6.cell? _ = _ := (HB6.out.cell (World.block_lt_of_cell? w _ HX.out.2.2.1)).trans HX.out.2.2.1
  have a3_6 : w6.cell? _ = _ := (HB6.out.cell (World.block_lt_of_cell? w _ HX.out.2.2.2)).trans HX.out.2.2.2
  have b0_6 : w6.cell? _ = _ := (HB6.out.cell (World.block_lt_of_cell? w _ HY.out.1)).trans HY.out.1
  have b1_6 : w6.cell? _ = _ := (HB6.out.cell (World.block_lt_of_cell? w _ HY.out.2.1)).trans HY.out.2.1
  have b2_6 : w6.cell? _ = _ := (HB6.out.cell (World.block_lt_of_cell? w _ HY.out.2.2.1)).trans HY.out.2.2.1
  have b3_6 : w6.cell? _ = _ := (HB6.out.cell (World.block_lt_of_cell? w _ HY.out.2.2.2)).trans HY.out.2.2.2
  go_wp2_with fail
  refine (HOF.out _ HB6.out).mono ?_
  rintro e w7 ⟨rfl, hb⟩
  clear cp6 x0_6 f0_6 x1_6 f1_6 x2_6 f2_6 x3_6 f3_6 a0_6 a1_6 a2_6 a3_6 b0_6 b1_6 b2_6 b3_6
  have HB7 : Hid (Below w.heap.size w w7) := below_step HB6.out hb
  have HBP7 : Hid (w7.heap[w.heap.size]? = some (boxP p)) := stepH HBP6.out hb
  have HBX7 : Hid (w7.heap[w.heap.size + 1]? = some zeroM) := stepH HBX6.out hb
  clear hb HB6 HBP6 HBX6
  have cp7 : w7.cell? ⟨w.heap.size, 0, none⟩ = some (.string p) := blk_cell HBP7.out 0
  have x0_7 : w7.cell? ⟨w.heap.size + 1, 0, none⟩ = some (.string ⟨#[]⟩) := blk_cell HBX7.out 0
  have f0_7 := blk_frozen HBX7.out 0
  have x1_7 : w7.cell? ⟨w.heap.size + 1, 1, none⟩ = some (.int .i64 0) := blk_cell HBX7.out 1
  have f1_7 := blk_frozen HBX7.out 1
  have x2_7 : w7.cell? ⟨w.heap.size + 1, 2, none⟩ = some (.int .i64 0) := blk_cell HBX7.out 2
  have f2_7 := blk_frozen HBX7.out 2
  have x3_7 : w7.cell? ⟨w.heap.size + 1, 3, none⟩ = some (.int .i64 0) := blk_cell HBX7.out 3
  have f3_7 := blk_frozen HBX7.out 3
  have a0_7 : w7.cell? _ = _ := (HB7.out.cell (World.block_lt_of_cell? w _ HX.out.1)).trans HX.out.1
  have a1_7 : w7.cell? _ = _ := (HB7.out.cell (World.block_lt_of_cell? w _ HX.out.2.1)).trans HX.out.2.1
  have a2_7 : w7.cell? _ = _ := (HB7.out.cell (World.block_lt_of_cell? w _ HX.out.2.2.1)).trans HX.out.2.2.1
  have a3_7 : w7.cell? _ = _ := (HB7.out.cell (World.block_lt_of_cell? w _ HX.out.2.2.2)).trans HX.out.2.2.2
  have b0_7 : w7.cell? _ = _ := (HB7.out.cell (World.block_lt_of_cell? w _ HY.out.1)).trans HY.out.1
  have b1_7 : w7.cell? _ = _ := (HB7.out.cell (World.block_lt_of_cell? w _ HY.out.2.1)).trans HY.out.2.1
  have b2_7 : w7.cell? _ = _ := (HB7.out.cell (World.block_lt_of_cell? w _ HY.out.2.2.1)).trans HY.out.2.2.1
  have b3_7 : w7.cell? _ = _ := (HB7.out.cell (World.block_lt_of_cell? w _ HY.out.2.2.2)).trans HY.out.2.2.2
  have g0 := blk_lt HBP7.out
  have g1 := blk_lt HBX7.out
  go_wp2_with fail
  refine (HCL.out _ (by repeat (first | exact HB7.out | refine below_alloc ?_ _ | refine Below.setCell ?_ (Nat.le_of_lt g0) _))).mono ?_
  rintro e w8 ⟨v, rfl, ho, hb⟩
  have HB8 : Hid (Below w.heap.size w w8) := below_step (below_alloc HB7.out _) hb
  have hX : w8.heap[w.heap.size + 1]? = some zeroM := stepH ((Below.heap_alloc w7 _ _ g1).trans HBX7.out) hb
  have hsz : (w7.alloc (.cells (enc ⟨p, y.f1, y.f2, d⟩).toArray 27)).heap.size = w7.heap.size + 1 := by show (w7.heap.push _).size = _; simp
  have hZ : w8.heap[w7.heap.size]? = some (.cells (enc ⟨p, y.f1, y.f2, d⟩).toArray 27 (0, 0)) := stepH (W := w7.alloc (.cells (enc ⟨p, y.f1, y.f2, d⟩).toArray 27)) (by show (w7.heap.push _)[w7.heap.size]? = _; simp) hb
  have hbs := hb.size
  rw [hsz] at ho hbs
  have HO := Lib.hid ho
  have HX7 := Lib.hid hX
  have HZ7 := Lib.hid hZ
  have hB7 := HB7.out.size
  clear hb hsz ho hX hZ
  clear cp7 x0_7 f0_7 x1_7 f1_7 x2_7 f2_7 x3_7 f3_7 a0_7 a1_7 a2_7 a3_7 b0_7 b1_7 b2_7 b3_7
  clear HB7 HBP7 HBX7
  obtain ⟨Z, hZe⟩ : ∃ Z, w7.heap.size = Z := ⟨_, rfl⟩
  rw [hZe] at HO HZ7 hbs g0 g1 hB7 ⊢
  clear hZe
  have z0 : w8.cell? ⟨Z, 0, none⟩ = some (.string p) := blk_cell HZ7.out 0
  have z1 : w8.cell? ⟨Z, 1, none⟩ = some (.int .i64 y.f1) := blk_cell HZ7.out 1
  have z2 : w8.cell? ⟨Z, 2, none⟩ = some (.int .i64 y.f2) := blk_cell HZ7.out 2
  have z3 : w8.cell? ⟨Z, 3, none⟩ = some (.int .i64 d) := blk_cell HZ7.out 3
  have x0 : w8.cell? ⟨w.heap.size + 1, 0, none⟩ = some (.string ⟨#[]⟩) := blk_cell HX7.out 0
  have f0 := blk_frozen HX7.out 0
  have x1 : w8.cell? ⟨w.heap.size + 1, 1, none⟩ = some (.int .i64 0) := blk_cell HX7.out 1
  have f1 := blk_frozen HX7.out 1
  have x2 : w8.cell? ⟨w.heap.size + 1, 2, none⟩ = some (.int .i64 0) := blk_cell HX7.out 2
  have f2 := blk_frozen HX7.out 2
  have x3 : w8.cell? ⟨w.heap.size + 1, 3, none⟩ = some (.int .i64 0) := blk_cell HX7.out 3
  have f3 := blk_frozen HX7.out 3
  have hnp : 0 < l.length := by have := HN.out; omega
  obtain ⟨g, cap, cur, rfl, hg, hnc, hcap, hh⟩ := R_form HO.out hnp
  obtain ⟨ad3, ea3, hc0, hc1, hc2, hc3⟩ := at_T27 (Kd.R_reads' HO.out).2.2 (i : Nat) (by omega) (by have := HN.out; omega)
  cases ea3
  simp only [Int.toNat_natCast, Addr.add_lit, Nat.zero_add] at hc0 hc1 hc2 hc3
  have r0 := blk_frozen hh (i * 4)
  have r1 := blk_frozen hh (i * 4 + 1)
  have r2 := blk_frozen hh (i * 4 + 2)
  have r3 := blk_frozen hh (i * 4 + 3)
  have HH := Lib.hid hh
  have hgN : g ≠ w.heap.size + 1 := by omega
  have hgZ : g ≠ Z := by omega
  clear hh
  have HN2 := HN.out
  rw [HN2] at *
  go_wp2_with fail
  go_region
  go_wp2_with fail
  have hil : i < l.length := by omega
  have H8 := store_R ⟨p, y.f1, y.f2, d⟩ HO.out hil
  have HX8 : (w8.setCells g (i * 4) (enc ⟨p, y.f1, y.f2, d⟩)).heap[w.heap.size + 1]? = some zeroM := (setCells_far _ _ _ (Ne.symm hgN)).trans HX7.out
  have H9 := Kd.R_mono (ok' := fun k => Z + 1 ≤ k) (Kd.R_bound H8) (fun k hk => hk.2.1)
  have hgB : w.heap.size ≤ g := by omega
  have hfar : ∀ k, Z + 1 ≤ k → k ≠ w.heap.size + 1 := fun k hk => by omega
  refine bodyPost_ret (results_list (rs := [.tmp 6, .cell 7 27, .tmp 8]) rfl (by simp) (.tmp (.cell (w.heap.size + 1) 27 _ (0, 0) _ rfl (setXd HX8 _ _ _ _) Try.underlying27 rfl (by kernel_rfl) (.tmp .nil)))) rfl ?_
  rw [HN.out] at H9
  have H10 := Kd.R_far (p := ⟨w.heap.size + 1, 3, none⟩) (Kd.R_far (p := ⟨w.heap.size + 1, 2, none⟩) (Kd.R_far (p := ⟨w.heap.size + 1, 1, none⟩) (Kd.R_far (p := ⟨w.heap.size + 1, 0, none⟩) H9 hfar (.string p)) hfar (.int .i64 y.f1)) hfar (.int .i64 y.f2)) hfar (.int .i64 d)
  have hN1 : w.heap.size ≤ w.heap.size + 1 := Nat.le_succ _
  have hV := Kd.R_V (base' := w.heap.size) (Kd.R_mono (ok' := fun k => P0 k ∨ w.heap.size ≤ k) (Kd.R_drew H10) (fun k hk => .inr (by omega)))
  have b1 := Below.setCell (p := ⟨g, i * 4, none⟩) HB8.out hgB (.string p)
  have b2 := Below.setCell (p := ⟨g, i * 4 + 1, none⟩) b1 hgB (.int .i64 y.f1)
  have b3 := Below.setCell (p := ⟨g, i * 4 + 2, none⟩) b2 hgB (.int .i64 y.f2)
  have b4 := Below.setCell (p := ⟨g, i * 4 + 3, none⟩) b3 hgB (.int .i64 d)
  have b5 := Below.setCell (p := ⟨w.heap.size + 1, 0, none⟩) b4 hN1 (.string p)
  have b6 := Below.setCell (p := ⟨w.heap.size + 1, 1, none⟩) b5 hN1 (.int .i64 y.f1)
  have b7 := Below.setCell (p := ⟨w.heap.size + 1, 2, none⟩) b6 hN1 (.int .i64 y.f2)
  have b8 := Below.drew (Below.setCell (p := ⟨w.heap.size + 1, 3, none⟩) b7 hN1 (.int .i64 d))
  exact ⟨_, rfl, hV, b8⟩
end Go.Proofs.Ytpkaedpgpncgpaa.MBegin
