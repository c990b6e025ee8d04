/- The walk of mounts.Begin. -/
import Derived.Test.YtpkaedpgpncgpaaMBegin
namespace Go.Proofs.Ytpkaedpgpncgpaa.MBegin
open Go Go.RowKit Go.Shelf Go.Proofs Go.Proofs.Ytpkaedpgpncgpaa.Q Go.Proofs.YtpkaedpgpncgpaaW.PrintWords Go.Proofs.YtpkaedpgpncgpaaW.PrintLast Go.Proofs.YtpkaedpgpncgpaaW.PrintMore

/-- rounds enough -/
def kOf (l : List S27) : Nat := l.length + 100
/-- what Begin makes of right mounts, once it goes on -/
def mounts_Begin.f (l : List S27) (p : ByteArray) (d : Int) : Option (List S27 × ByteArray × Int × Int × Int × Int) :=
  (mounts_Right.f (l.length + 10) l).bind fun r => (path_Right.f p).bind fun q => (mounts_group.f d).bind fun g =>
    if (r && (q && g)) = false then some ([], ⟨#[]⟩, 0, 0, 0, 1) else
    if 32 < l.length then none else
    let x := rd_T27 l (at_ p l : Nat)
    if (own_ p l && (movB x && decide (x.f3 = d))) = true then some (l, x.f0, x.f1, x.f2, x.f3, 0) else
    if l.all (inOk p) = false then none else
    (mounts_Of.f (kOf l) l p).bind fun a =>
      if 0 ≤ a ∧ a < (l.length : Int) then
        let y := rd_T27 l a
        if l.any (busyB p) = true then some (l, ⟨#[]⟩, 0, 0, 0, 131) else
        if y.f1 = d then some (l, ⟨#[]⟩, 0, 0, 0, 61) else
        if (!own_ p l && decide (l.length = 32)) = true then some (l, ⟨#[]⟩, 0, 0, 0, 2) else
        if y.f2 = 281474976710656 then some (l, ⟨#[]⟩, 0, 0, 0, 2) else
        if own_ p l = true then some (l.set (at_ p l) ⟨p, y.f1, y.f2, d⟩, p, y.f1, y.f2, d, 0)
        else some (l.take (at_ p l) ++ ⟨p, y.f1, y.f2, d⟩ :: l.drop (at_ p l), p, y.f1, y.f2, d, 0)
      else none

def Post (w : World) (P0 : Nat → Prop) (r1 : List S27) (r2 : ByteArray) (r3 r4 r5 r6 : Int) (e : Ending) (w' : World) : Prop :=
  ∃ v : Value, e = .returned (.tuple #[v, .agg #[.string r2, .int .i64 r3, .int .i64 r4, .int .i64 r5], .int .i64 r6]) ∧ Kd.V k27 27 w' w.heap.size (fun k_ => P0 k_ ∨ w.heap.size ≤ k_) v r1 ∧ Below w.heap.size w w'

theorem start1 {w w1 : World} {a b : Obj} (hb : Below ((w.alloc a).alloc b).heap.size ((w.alloc a).alloc b) w1) : Below w.heap.size w w1 ∧ w1.heap[w.heap.size]? = some a ∧ w1.heap[w.heap.size + 1]? = some b := by
  have hs : ((w.alloc a).alloc b).heap.size = w.heap.size + 2 := by show ((w.heap.push a).push b).size = _; simp
  have h0 : Below w.heap.size w ((w.alloc a).alloc b) := below_alloc (below_alloc (Below.refl _ _) _) _
  refine ⟨below_step h0 hb, ?_, ?_⟩
  · rw [hb.block _ (by omega)]
    show ((w.heap.push a).push b)[w.heap.size]? = _
    rw [Array.getElem?_push_lt (by simp)]
    simp
  · rw [hb.block _ (by omega)]
    show ((w.heap.push a).push b)[w.heap.size + 1]? = _
    have : w.heap.size + 1 = (w.heap.push a).size := by simp
    rw [this, Array.getElem?_push_size]
theorem stepH {W w' : World} {k : Nat} {o : Obj} (h : W.heap[k]? = some o) (hb : Below W.heap.size W w') : w'.heap[k]? = some o := (hb.block k (blk_lt h)).trans h
theorem setX {w : World} {g t : Nat} {a0 a1 a2 a3 : Value} (h : w.heap[g]? = some (.cells #[a0, a1, a2, a3] t (0, 0))) (b0 b1 b2 b3 : Value) :
    ((((w.setCell ⟨g, 0, none⟩ b0).setCell ⟨g, 1, none⟩ b1).setCell ⟨g, 2, none⟩ b2).setCell ⟨g, 3, none⟩ b3).heap[g]? = some (.cells #[b0, b1, b2, b3] t (0, 0)) := blk_set (blk_set (blk_set (blk_set h 0 b0) 1 b1) 2 b2) 3 b3
theorem setXd {w : World} {g t : Nat} {a0 a1 a2 a3 : Value} (h : w.heap[g]? = some (.cells #[a0, a1, a2, a3] t (0, 0))) (b0 b1 b2 b3 : Value) :
    (((((w.setCell ⟨g, 0, none⟩ b0).setCell ⟨g, 1, none⟩ b1).setCell ⟨g, 2, none⟩ b2).setCell ⟨g, 3, none⟩ b3).drew).heap[g]? = some (.cells #[b0, b1, b2, b3] t (0, 0)) := setX h b0 b1 b2 b3
theorem setXa {w : World} {g t : Nat} {a0 a1 a2 a3 : Value} (h : w.heap[g]? = some (.cells #[a0, a1, a2, a3] t (0, 0))) (b0 b1 b2 b3 : Value) (o : Obj) :
    (((((w.setCell ⟨g, 0, none⟩ b0).setCell ⟨g, 1, none⟩ b1).setCell ⟨g, 2, none⟩ b2).setCell ⟨g, 3, none⟩ b3).alloc o).heap[g]? = some (.cells #[b0, b1, b2, b3] t (0, 0)) := (Below.heap_alloc _ o g (blk_lt (setX h b0 b1 b2 b3))).trans (setX h b0 b1 b2 b3)
abbrev zeroM : Obj := .cells #[.string ⟨#[]⟩, .int .i64 0, .int .i64 0, .int .i64 0] 27 (0, 0)
abbrev boxP (p : ByteArray) : Obj := .cells #[.string p] 9 (0, 0)

set_option maxHeartbeats 8000000 in
set_option maxRecDepth 100000 in
theorem begin_bad (P0 : Nat → Prop) (A : Option Addr) (c : Nat) (l : List S27) (p : ByteArray) (d : Int) (r q g : Bool) (w : World) (hr : Kd.C k27 w A l.length l) (hc : l.length ≤ c)
    (h1 : mounts_Right.f (l.length + 10) l = some r) (h2 : path_Right.f p = some q) (h3 : mounts_group.f d = some g) (hb : (r && (q && g)) = false) :
    Calls Try.prog 12 #[.slice A l.length c, .string p, .int .i64 d] w (Post w P0 [] ⟨#[]⟩ 0 0 0 1) := by
  have HR := Lib.hid (fun W (hW : Below w.heap.size w W) => mounts_Right.calls (l.length + 10) A c l r W (Kd.C_below hr hW) hc h1)
  have HP := Lib.hid (fun W => path_Right.calls p q W h2)
  have HG := Lib.hid (fun W => (mounts_group.calls d g W h3).mono (fun e w' (h : _ ∧ _) => And.intro h.1 h.2.below))
  clear hr hc h1 h2 h3
  cases r
  · clear HP HG hb
    go_enter Try.func12, Try.ntmps12
    go_wp2_with fail
    refine (HR.out _ (by repeat (first | exact Below.refl _ _ | apply below_alloc))).mono ?_
    rintro e w1 ⟨rfl, hb1⟩
    obtain ⟨hB, hP, hX⟩ := start1 hb1
    have HB1 := Lib.hid hB
    have HBP1 : Hid (w1.heap[w.heap.size]? = some (boxP p)) := hP
    have HBX1 : Hid (w1.heap[w.heap.size + 1]? = some zeroM) := hX
    clear hb1 hB hP hX
    have cp1 : w1.cell? ⟨w.heap.size, 0, none⟩ = some (.string p) := blk_cell HBP1.out 0
    have x0_1 : w1.cell? ⟨w.heap.size + 1, 0, none⟩ = some (.string ⟨#[]⟩) := blk_cell HBX1.out 0
    have f0_1 := blk_frozen HBX1.out 0
    have x1_1 : w1.cell? ⟨w.heap.size + 1, 1, none⟩ = some (.int .i64 0) := blk_cell HBX1.out 1
    have f1_1 := blk_frozen HBX1.out 1
    have x2_1 : w1.cell? ⟨w.heap.size + 1, 2, none⟩ = some (.int .i64 0) := blk_cell HBX1.out 2
    have f2_1 := blk_frozen HBX1.out 2
    have x3_1 : w1.cell? ⟨w.heap.size + 1, 3, none⟩ = some (.int .i64 0) := blk_cell HBX1.out 3
    have f3_1 := blk_frozen HBX1.out 3
    go_wp2_with fail
    refine bodyPost_ret (results_list (rs := [.tmp 6, .cell 7 27, .tmp 8]) rfl (by simp) (.tmp (.cell (w.heap.size + 1) 27 _ (0, 0) _ rfl (setX HBX1.out _ _ _ _) Try.underlying27 rfl (by kernel_rfl) (.tmp .nil)))) rfl ?_
    refine ⟨_, rfl, Kd.V_nil _ _ _ _ _, ?_⟩
    all_goals repeat (first | exact HB1.out | refine below_alloc ?_ _ | refine Below.drew ?_ | refine Below.setCell ?_ (Nat.le_succ _) _)
  · cases q
    · clear HG hb
      go_enter Try.func12, Try.ntmps12
      go_wp2_with fail
      refine (HR.out _ (by repeat (first | exact Below.refl _ _ | apply below_alloc))).mono ?_
      rintro e w1 ⟨rfl, hb1⟩
      obtain ⟨hB, hP, hX⟩ := start1 hb1
      have HB1 := Lib.hid hB
      have HBP1 : Hid (w1.heap[w.heap.size]? = some (boxP p)) := hP
      have HBX1 : Hid (w1.heap[w.heap.size + 1]? = some zeroM) := hX
      clear hb1 hB hP hX
      have cp1 : w1.cell? ⟨w.heap.size, 0, none⟩ = some (.string p) := blk_cell HBP1.out 0
      have x0_1 : w1.cell? ⟨w.heap.size + 1, 0, none⟩ = some (.string ⟨#[]⟩) := blk_cell HBX1.out 0
      have f0_1 := blk_frozen HBX1.out 0
      have x1_1 : w1.cell? ⟨w.heap.size + 1, 1, none⟩ = some (.int .i64 0) := blk_cell HBX1.out 1
      have f1_1 := blk_frozen HBX1.out 1
      have x2_1 : w1.cell? ⟨w.heap.size + 1, 2, none⟩ = some (.int .i64 0) := blk_cell HBX1.out 2
      have f2_1 := blk_frozen HBX1.out 2
      have x3_1 : w1.cell? ⟨w.heap.size + 1, 3, none⟩ = some (.int .i64 0) := blk_cell HBX1.out 3
      have f3_1 := blk_frozen HBX1.out 3
      go_wp2_with fail
      refine (HP.out _).mono ?_
      rintro e w2 ⟨rfl, hb⟩
      clear cp1 x0_1 f0_1 x1_1 f1_1 x2_1 f2_1 x3_1 f3_1
      have HB2 : Hid (Below w.heap.size w w2) := below_step HB1.out hb
      have HBP2 : Hid (w2.heap[w.heap.size]? = some (boxP p)) := stepH HBP1.out hb
      have HBX2 : Hid (w2.heap[w.heap.size + 1]? = some zeroM) := stepH HBX1.out hb
      clear hb HB1 HBP1 HBX1
      have cp2 : w2.cell? ⟨w.heap.size, 0, none⟩ = some (.string p) := blk_cell HBP2.out 0
      have x0_2 : w2.cell? ⟨w.heap.size + 1, 0, none⟩ = some (.string ⟨#[]⟩) := blk_cell HBX2.out 0
      have f0_2 := blk_frozen HBX2.out 0
      have x1_2 : w2.cell? ⟨w.heap.size + 1, 1, none⟩ = some (.int .i64 0) := blk_cell HBX2.out 1
      have f1_2 := blk_frozen HBX2.out 1
      have x2_2 : w2.cell? ⟨w.heap.size + 1, 2, none⟩ = some (.int .i64 0) := blk_cell HBX2.out 2
      have f2_2 := blk_frozen HBX2.out 2
      have x3_2 : w2.cell? ⟨w.heap.size + 1, 3, none⟩ = some (.int .i64 0) := blk_cell HBX2.out 3
      have f3_2 := blk_frozen HBX2.out 3
      go_wp2_with fail
      refine bodyPost_ret (results_list (rs := [.tmp 6, .cell 7 27, .tmp 8]) rfl (by simp) (.tmp (.cell (w.heap.size + 1) 27 _ (0, 0) _ rfl (setX HBX2.out _ _ _ _) Try.underlying27 rfl (by kernel_rfl) (.tmp .nil)))) rfl ?_
      refine ⟨_, rfl, Kd.V_nil _ _ _ _ _, ?_⟩
      all_goals repeat (first | exact HB2.out | refine below_alloc ?_ _ | refine Below.drew ?_ | refine Below.setCell ?_ (Nat.le_succ _) _)
    · cases g
      · clear hb
        go_enter Try.func12, Try.ntmps12
        go_wp2_with fail
        refine (HR.out _ (by repeat (first | exact Below.refl _ _ | apply below_alloc))).mono ?_
        rintro e w1 ⟨rfl, hb1⟩
        obtain ⟨hB, hP, hX⟩ := start1 hb1
        have HB1 := Lib.hid hB
        have HBP1 : Hid (w1.heap[w.heap.size]? = some (boxP p)) := hP
        have HBX1 : Hid (w1.heap[w.heap.size + 1]? = some zeroM) := hX
        clear hb1 hB hP hX
        have cp1 : w1.cell? ⟨w.heap.size, 0, none⟩ = some (.string p) := blk_cell HBP1.out 0
        have x0_1 : w1.cell? ⟨w.heap.size + 1, 0, none⟩ = some (.string ⟨#[]⟩) := blk_cell HBX1.out 0
        have f0_1 := blk_frozen HBX1.out 0
        have x1_1 : w1.cell? ⟨w.heap.size + 1, 1, none⟩ = some (.int .i64 0) := blk_cell HBX1.out 1
        have f1_1 := blk_frozen HBX1.out 1
        have x2_1 : w1.cell? ⟨w.heap.size + 1, 2, none⟩ = some (.int .i64 0) := blk_cell HBX1.out 2
        have f2_1 := blk_frozen HBX1.out 2
        have x3_1 : w1.cell? ⟨w.heap.size + 1, 3, none⟩ = some (.int .i64 0) := blk_cell HBX1.out 3
        have f3_1 := blk_frozen HBX1.out 3
        go_wp2_with fail
        refine (HP.out _).mono ?_
        rintro e w2 ⟨rfl, hb⟩
        clear cp1 x0_1 f0_1 x1_1 f1_1 x2_1 f2_1 x3_1 f3_1
        have HB2 : Hid (Below w.heap.size w w2) := below_step HB1.out hb
        have HBP2 : Hid (w2.heap[w.heap.size]? = some (boxP p)) := stepH HBP1.out hb
        have HBX2 : Hid (w2.heap[w.heap.size + 1]? = some zeroM) := stepH HBX1.out hb
        clear hb HB1 HBP1 HBX1
        have cp2 : w2.cell? ⟨w.heap.size, 0, none⟩ = some (.string p) := blk_cell HBP2.out 0
        have x0_2 : w2.cell? ⟨w.heap.size + 1, 0, none⟩ = some (.string ⟨#[]⟩) := blk_cell HBX2.out 0
        have f0_2 := blk_frozen HBX2.out 0
        have x1_2 : w2.cell? ⟨w.heap.size + 1, 1, none⟩ = some (.int .i64 0) := blk_cell HBX2.out 1
        have f1_2 := blk_frozen HBX2.out 1
        have x2_2 : w2.cell? ⟨w.heap.size + 1, 2, none⟩ = some (.int .i64 0) := blk_cell HBX2.out 2
        have f2_2 := blk_frozen HBX2.out 2
        have x3_2 : w2.cell? ⟨w.heap.size + 1, 3, none⟩ = some (.int .i64 0) := blk_cell HBX2.out 3
        have f3_2 := blk_frozen HBX2.out 3
        go_wp2_with fail
        refine (HG.out _).mono ?_
        rintro e w3 ⟨rfl, hb⟩
        clear cp2 x0_2 f0_2 x1_2 f1_2 x2_2 f2_2 x3_2 f3_2
        have HB3 : Hid (Below w.heap.size w w3) := below_step HB2.out hb
        have HBP3 : Hid (w3.heap[w.heap.size]? = some (boxP p)) := stepH HBP2.out hb
        have HBX3 : Hid (w3.heap[w.heap.size + 1]? = some zeroM) := stepH HBX2.out hb
        clear hb HB2 HBP2 HBX2
        have cp3 : w3.cell? ⟨w.heap.size, 0, none⟩ = some (.string p) := blk_cell HBP3.out 0
        have x0_3 : w3.cell? ⟨w.heap.size + 1, 0, none⟩ = some (.string ⟨#[]⟩) := blk_cell HBX3.out 0
        have f0_3 := blk_frozen HBX3.out 0
        have x1_3 : w3.cell? ⟨w.heap.size + 1, 1, none⟩ = some (.int .i64 0) := blk_cell HBX3.out 1
        have f1_3 := blk_frozen HBX3.out 1
        have x2_3 : w3.cell? ⟨w.heap.size + 1, 2, none⟩ = some (.int .i64 0) := blk_cell HBX3.out 2
        have f2_3 := blk_frozen HBX3.out 2
        have x3_3 : w3.cell? ⟨w.heap.size + 1, 3, none⟩ = some (.int .i64 0) := blk_cell HBX3.out 3
        have f3_3 := blk_frozen HBX3.out 3
        go_wp2_with fail
        refine bodyPost_ret (results_list (rs := [.tmp 6, .cell 7 27, .tmp 8]) rfl (by simp) (.tmp (.cell (w.heap.size + 1) 27 _ (0, 0) _ rfl (setX HBX3.out _ _ _ _) Try.underlying27 rfl (by kernel_rfl) (.tmp .nil)))) rfl ?_
        refine ⟨_, rfl, Kd.V_nil _ _ _ _ _, ?_⟩
        all_goals repeat (first | exact HB3.out | refine below_alloc ?_ _ | refine Below.drew ?_ | refine Below.setCell ?_ (Nat.le_succ _) _)
      · cases hb

set_option maxHeartbeats 8000000 in
set_option maxRecDepth 100000 in
theorem begin_same (P0 : Nat → Prop) (A : Option Addr) (c : Nat) (l : List S27) (p : ByteArray) (d : Int) (w : World) (hv : Kd.V k27 27 w w.heap.size P0 (.slice A l.length c) l) (hr : Kd.C k27 w A l.length l) (hc : l.length ≤ c)
    (h1 : mounts_Right.f (l.length + 10) l = some true) (h2 : path_Right.f p = some true) (h3 : mounts_group.f d = some true) (h32 : l.length ≤ 32) (ho : own_ p l = true) (hm : (movB (rd_T27 l (at_ p l : Nat)) && decide ((rd_T27 l (at_ p l : Nat)).f3 = d)) = true) :
    Calls Try.prog 12 #[.slice A l.length c, .string p, .int .i64 d] w (Post w P0 l (rd_T27 l (at_ p l : Nat)).f0 (rd_T27 l (at_ p l : Nat)).f1 (rd_T27 l (at_ p l : Nat)).f2 (rd_T27 l (at_ p l : Nat)).f3 0) := by
  have HR := Lib.hid (fun W (hW : Below w.heap.size w W) => mounts_Right.calls (l.length + 10) A c l true W (Kd.C_below hr hW) hc h1)
  have HP := Lib.hid (fun W => path_Right.calls p true W h2)
  have HG := Lib.hid (fun W => (mounts_group.calls d true W h3).mono (fun e w' (h : _ ∧ _) => And.intro h.1 h.2.below))
  have HF := Lib.hid (fun W (hW : Below w.heap.size w W) => find_calls A c l p W (Kd.C_below hr hW) (by omega))
  have hlt : at_ p l < l.length := by
    have : decide (at_ p l < l.length) && decide (cmpP p (rd_T27 l (at_ p l : Nat)) = 0) := ho
    simp at this
    exact this.1
  obtain ⟨ad, ea, hx0, hx1, hx2, hx3⟩ := at_T27 hr (at_ p l : Nat) (by omega) (by omega)
  simp only [Int.toNat_natCast] at hx0 hx1 hx2 hx3
  have HV := Lib.hid hv
  have HL := Lib.hid hc
  rw [ho] at HF
  obtain ⟨i, hi⟩ : ∃ i, at_ p l = i := ⟨_, rfl⟩
  rw [hi] at hx0 hx1 hx2 hx3 hlt HF hm
  rw [hi]
  obtain ⟨x, hxx⟩ : ∃ x, rd_T27 l (i : Nat) = x := ⟨_, rfl⟩
  rw [hxx] at hx0 hx1 hx2 hx3 hm
  rw [hxx]
  have HX := Lib.hid (And.intro hx0 (And.intro hx1 (And.intro hx2 hx3)))
  obtain ⟨n, hn⟩ : ∃ n, l.length = n := ⟨_, rfl⟩
  have hm1 : movB x = true := by simp only [Bool.and_eq_true] at hm; exact hm.1
  have hm2 : (x.f3 == d) = true := by simp only [Bool.and_eq_true, decide_eq_true_eq] at hm; exact beq_iff_eq.2 hm.2
  have HM := Lib.hid (fun W => moves_is x true hm1 W)
  rw [hn] at HR HF hlt HV ⊢
  clear hr hc h1 h2 h3 ho hm hm1 hv hx0 hx1 hx2 hx3 hi hxx h32
  cases ea
  have hlz : (i : Int) < (n : Int) := by omega
  go_enter Try.func12, Try.ntmps12
  go_wp2_with fail
  refine (HR.out _ (by repeat (first | exact Below.refl _ _ | apply below_alloc))).mono ?_
  rintro e w1 ⟨rfl, hb1⟩
  obtain ⟨hB, hP, hX⟩ := start1 hb1
  have HB1 := Lib.hid hB
  have HBP1 : Hid (w1.heap[w.heap.size]? = some (boxP p)) := hP
  have HBX1 : Hid (w1.heap[w.heap.size + 1]? = some zeroM) := hX
  clear hb1 hB hP hX
  have cp1 : w1.cell? ⟨w.heap.size, 0, none⟩ = some (.string p) := blk_cell HBP1.out 0
  have x0_1 : w1.cell? ⟨w.heap.size + 1, 0, none⟩ = some (.string ⟨#[]⟩) := blk_cell HBX1.out 0
  have f0_1 := blk_frozen HBX1.out 0
  have x1_1 : w1.cell? ⟨w.heap.size + 1, 1, none⟩ = some (.int .i64 0) := blk_cell HBX1.out 1
  have f1_1 := blk_frozen HBX1.out 1
  have x2_1 : w1.cell? ⟨w.heap.size + 1, 2, none⟩ = some (.int .i64 0) := blk_cell HBX1.out 2
  have f2_1 := blk_frozen HBX1.out 2
  have x3_1 : w1.cell? ⟨w.heap.size + 1, 3, none⟩ = some (.int .i64 0) := blk_cell HBX1.out 3
  have f3_1 := blk_frozen HBX1.out 3
  have a0_1 : w1.cell? _ = _ := (HB1.out.cell (World.block_lt_of_cell? w _ HX.out.1)).trans HX.out.1
  have a1_1 : w1.cell? _ = _ := (HB1.out.cell (World.block_lt_of_cell? w _ HX.out.2.1)).trans HX.out.2.1
  have a2_1 : w1.cell? _ = _ := (HB1.out.cell (World.block_lt_of_cell? w _ HX.out.2.2.1)).trans HX.out.2.2.1
  have a3_1 : w1.cell? _ = _ := (HB1.out.cell (World.block_lt_of_cell? w _ HX.out.2.2.2)).trans HX.out.2.2.2
  go_wp2_with fail
  refine (HP.out _).mono ?_
  rintro e w2 ⟨rfl, hb⟩
  clear cp1 x0_1 f0_1 x1_1 f1_1 x2_1 f2_1 x3_1 f3_1 a0_1 a1_1 a2_1 a3_1
  have HB2 : Hid (Below w.heap.size w w2) := below_step HB1.out hb
  have HBP2 : Hid (w2.heap[w.heap.size]? = some (boxP p)) := stepH HBP1.out hb
  have HBX2 : Hid (w2.heap[w.heap.size + 1]? = some zeroM) := stepH HBX1.out hb
  clear hb HB1 HBP1 HBX1
  have cp2 : w2.cell? ⟨w.heap.size, 0, none⟩ = some (.string p) := blk_cell HBP2.out 0
  have x0_2 : w2.cell? ⟨w.heap.size + 1, 0, none⟩ = some (.string ⟨#[]⟩) := blk_cell HBX2.out 0
  have f0_2 := blk_frozen HBX2.out 0
  have x1_2 : w2.cell? ⟨w.heap.size + 1, 1, none⟩ = some (.int .i64 0) := blk_cell HBX2.out 1
  have f1_2 := blk_frozen HBX2.out 1
  have x2_2 : w2.cell? ⟨w.heap.size + 1, 2, none⟩ = some (.int .i64 0) := blk_cell HBX2.out 2
  have f2_2 := blk_frozen HBX2.out 2
  have x3_2 : w2.cell? ⟨w.heap.size + 1, 3, none⟩ = some (.int .i64 0) := blk_cell HBX2.out 3
  have f3_2 := blk_frozen HBX2.out 3
  have a0_2 : w2.cell? _ = _ := (HB2.out.cell (World.block_lt_of_cell? w _ HX.out.1)).trans HX.out.1
  have a1_2 : w2.cell? _ = _ := (HB2.out.cell (World.block_lt_of_cell? w _ HX.out.2.1)).trans HX.out.2.1
  have a2_2 : w2.cell? _ = _ := (HB2.out.cell (World.block_lt_of_cell? w _ HX.out.2.2.1)).trans HX.out.2.2.1
  have a3_2 : w2.cell? _ = _ := (HB2.out.cell (World.block_lt_of_cell? w _ HX.out.2.2.2)).trans HX.out.2.2.2
  go_wp2_with fail
  refine (HG.out _).mono ?_
  rintro e w3 ⟨rfl, hb⟩
  clear cp2 x0_2 f0_2 x1_2 f1_2 x2_2 f2_2 x3_2 f3_2 a0_2 a1_2 a2_2 a3_2
  have HB3 : Hid (Below w.heap.size w w3) := below_step HB2.out hb
  have HBP3 : Hid (w3.heap[w.heap.size]? = some (boxP p)) := stepH HBP2.out hb
  have HBX3 : Hid (w3.heap[w.heap.size + 1]? = some zeroM) := stepH HBX2.out hb
  clear hb HB2 HBP2 HBX2
  have cp3 : w3.cell? ⟨w.heap.size, 0, none⟩ = some (.string p) := blk_cell HBP3.out 0
  have x0_3 : w3.cell? ⟨w.heap.size + 1, 0, none⟩ = some (.string ⟨#[]⟩) := blk_cell HBX3.out 0
  have f0_3 := blk_frozen HBX3.out 0
  have x1_3 : w3.cell? ⟨w.heap.size + 1, 1, none⟩ = some (.int .i64 0) := blk_cell HBX3.out 1
  have f1_3 := blk_frozen HBX3.out 1
  have x2_3 : w3.cell? ⟨w.heap.size + 1, 2, none⟩ = some (.int .i64 0) := blk_cell HBX3.out 2
  have f2_3 := blk_frozen HBX3.out 2
  have x3_3 : w3.cell? ⟨w.heap.size + 1, 3, none⟩ = some (.int .i64 0) := blk_cell HBX3.out 3
  have f3_3 := blk_frozen HBX3.out 3
  have a0_3 : w3.cell? _ = _ := (HB3.out.cell (World.block_lt_of_cell? w _ HX.out.1)).trans HX.out.1
  have a1_3 : w3.cell? _ = _ := (HB3.out.cell (World.block_lt_of_cell? w _ HX.out.2.1)).trans HX.out.2.1
  have a2_3 : w3.cell? _ = _ := (HB3.out.cell (World.block_lt_of_cell? w _ HX.out.2.2.1)).trans HX.out.2.2.1
  have a3_3 : w3.cell? _ = _ := (HB3.out.cell (World.block_lt_of_cell? w _ HX.out.2.2.2)).trans HX.out.2.2.2
  go_wp2_with fail
  refine (HF.out _ HB3.out).mono ?_
  rintro e w4 ⟨rfl, hb⟩
  clear cp3 x0_3 f0_3 x1_3 f1_3 x2_3 f2_3 x3_3 f3_3 a0_3 a1_3 a2_3 a3_3
  have HB4 : Hid (Below w.heap.size w w4) := below_step HB3.out hb
  have HBP4 : Hid (w4.heap[w.heap.size]? = some (boxP p)) := stepH HBP3.out hb
  have HBX4 : Hid (w4.heap[w.heap.size + 1]? = some zeroM) := stepH HBX3.out hb
  clear hb HB3 HBP3 HBX3
  have cp4 : w4.cell? ⟨w.heap.size, 0, none⟩ = some (.string p) := blk_cell HBP4.out 0
  have x0_4 : w4.cell? ⟨w.heap.size + 1, 0, none⟩ = some (.string ⟨#[]⟩) := blk_cell HBX4.out 0
  have f0_4 := blk_frozen HBX4.out 0
  have x1_4 : w4.cell? ⟨w.heap.size + 1, 1, none⟩ = some (.int .i64 0) := blk_cell HBX4.out 1
  have f1_4 := blk_frozen HBX4.out 1
  have x2_4 : w4.cell? ⟨w.heap.size + 1, 2, none⟩ = some (.int .i64 0) := blk_cell HBX4.out 2
  have f2_4 := blk_frozen HBX4.out 2
  have x3_4 : w4.cell? ⟨w.heap.size + 1, 3, none⟩ = some (.int .i64 0) := blk_cell HBX4.out 3
  have f3_4 := blk_frozen HBX4.out 3
  have a0_4 : w4.cell? _ = _ := (HB4.out.cell (World.block_lt_of_cell? w _ HX.out.1)).trans HX.out.1
  have a1_4 : w4.cell? _ = _ := (HB4.out.cell (World.block_lt_of_cell? w _ HX.out.2.1)).trans HX.out.2.1
  have a2_4 : w4.cell? _ = _ := (HB4.out.cell (World.block_lt_of_cell? w _ HX.out.2.2.1)).trans HX.out.2.2.1
  have a3_4 : w4.cell? _ = _ := (HB4.out.cell (World.block_lt_of_cell? w _ HX.out.2.2.2)).trans HX.out.2.2.2
  go_wp2_with fail
  refine (HM.out _).mono ?_
  rintro e w5 ⟨rfl, hb⟩
  clear cp4 x0_4 f0_4 x1_4 f1_4 x2_4 f2_4 x3_4 f3_4 a0_4 a1_4 a2_4 a3_4
  have HB5 : Hid (Below w.heap.size w w5) := below_step HB4.out hb
  have HBP5 : Hid (w5.heap[w.heap.size]? = some (boxP p)) := stepH HBP4.out hb
  have HBX5 : Hid (w5.heap[w.heap.size + 1]? = some zeroM) := stepH HBX4.out hb
  clear hb HB4 HBP4 HBX4
  have cp5 : w5.cell? ⟨w.heap.size, 0, none⟩ = some (.string p) := blk_cell HBP5.out 0
  have x0_5 : w5.cell? ⟨w.heap.size + 1, 0, none⟩ = some (.string ⟨#[]⟩) := blk_cell HBX5.out 0
  have f0_5 := blk_frozen HBX5.out 0
  have x1_5 : w5.cell? ⟨w.heap.size + 1, 1, none⟩ = some (.int .i64 0) := blk_cell HBX5.out 1
  have f1_5 := blk_frozen HBX5.out 1
  have x2_5 : w5.cell? ⟨w.heap.size + 1, 2, none⟩ = some (.int .i64 0) := blk_cell HBX5.out 2
  have f2_5 := blk_frozen HBX5.out 2
  have x3_5 : w5.cell? ⟨w.heap.size + 1, 3, none⟩ = some (.int .i64 0) := blk_cell HBX5.out 3
  have f3_5 := blk_frozen HBX5.out 3
  have a0_5 : w5.cell? _ = _ := (HB5.out.cell (World.block_lt_of_cell? w _ HX.out.1)).trans HX.out.1
  have a1_5 : w5.cell? _ = _ := (HB5.out.cell (World.block_lt_of_cell? w _ HX.out.2.1)).trans HX.out.2.1
  have a2_5 : w5.cell? _ = _ := (HB5.out.cell (World.block_lt_of_cell? w _ HX.out.2.2.1)).trans HX.out.2.2.1
  have a3_5 : w5.cell? _ = _ := (HB5.out.cell (World.block_lt_of_cell? w _ HX.out.2.2.2)).trans HX.out.2.2.2
  go_wp2_with fail
  go_region
  go_wp2_with fail
  refine bodyPost_ret (results_list (rs := [.tmp 6, .cell 7 27, .tmp 8]) rfl (by simp) (.tmp (.cell (w.heap.size + 1) 27 _ (0, 0) _ rfl (setXd HBX5.out _ _ _ _) Try.underlying27 rfl (by kernel_rfl) (.tmp .nil)))) rfl ?_
  refine ⟨_, rfl, Kd.V_mono (Kd.V_below HV.out ?_) (fun _ hk => .inl hk), ?_⟩
  all_goals repeat (first | exact HB5.out | refine below_alloc ?_ _ | refine Below.drew ?_ | refine Below.setCell ?_ (Nat.le_succ _) _)

set_option maxHeartbeats 8000000 in
set_option maxRecDepth 100000 in
theorem begin_busy_A (P0 : Nat → Prop) (A : Option Addr) (c : Nat) (l : List S27) (p : ByteArray) (d : Int) (j : Nat) (w : World) (hv : Kd.V k27 27 w w.heap.size P0 (.slice A l.length c) l) (hr : Kd.C k27 w A l.length l) (hc : l.length ≤ c)
    (h1 : mounts_Right.f (l.length + 10) l = some true) (h2 : path_Right.f p = some true) (h3 : mounts_group.f d = some true) (h32 : l.length ≤ 32) (hall : l.all (inOk p) = true) (hof : mounts_Of.f (kOf l) l p = some (j : Int)) (hj : j < l.length) (ho : own_ p l = false) (hbu : l.any (busyB p) = true)  :
    Calls Try.prog 12 #[.slice A l.length c, .string p, .int .i64 d] w (Post w P0 l ⟨#[]⟩ 0 0 0 131) := by
  have HR := Lib.hid (fun W (hW : Below w.heap.size w W) => mounts_Right.calls (l.length + 10) A c l true W (Kd.C_below hr hW) hc h1)
  have HP := Lib.hid (fun W => path_Right.calls p true W h2)
  have HG := Lib.hid (fun W => (mounts_group.calls d true W h3).mono (fun e w' (h : _ ∧ _) => And.intro h.1 h.2.below))
  have HF := Lib.hid (fun W (hW : Below w.heap.size w W) => find_calls A c l p W (Kd.C_below hr hW) (by omega))
  have HBU := Lib.hid (fun W g (hg : W.heap[g]? = some (.cells #[.string p] 9 (0, 0))) (hW : Below w.heap.size w W) => IMount.contains_calls 28 #[.pointer (some ⟨g, 0, none⟩)] (enters_of Try.func28 (by kernel_rfl) rfl) (busyB p) A c l W (busy_pred p g l W hall hg) (Kd.C_below hr hW) (by omega))
  have HOF := Lib.hid (fun W (hW : Below w.heap.size w W) => mounts_Of.calls (kOf l) A c l p (j : Int) W (Kd.C_below hr hW) hc hof)
  obtain ⟨ad, ea, hy0, hy1, hy2, hy3⟩ := at_T27 hr (j : Nat) (by omega) (by omega)
  simp only [Int.toNat_natCast] at hy0 hy1 hy2 hy3
  have HV := Lib.hid hv
  rw [ho] at HF
  rw [hbu] at HBU
  have HLE := Lib.hid (at_le p l)
  obtain ⟨i, hi⟩ : ∃ i, at_ p l = i := ⟨_, rfl⟩
  rw [hi] at HF HLE 
  (try rw [hi])
  obtain ⟨y, hyy⟩ : ∃ y, rd_T27 l (j : Nat) = y := ⟨_, rfl⟩
  rw [hyy] at hy0 hy1 hy2 hy3
  (try rw [hyy])
  have HY := Lib.hid (And.intro hy0 (And.intro hy1 (And.intro hy2 hy3)))
  obtain ⟨n, hn⟩ : ∃ n, l.length = n := ⟨_, rfl⟩
  have HN := Lib.hid hn
  rw [hn] at HR HF HBU HOF HV hj h32 ⊢
  have hjz : (j : Int) < (n : Int) := by omega
  clear hr hc h1 h2 h3 ho hv hy0 hy1 hy2 hy3 hi hyy hof hall hbu 
  cases ea
  
  
  go_enter Try.func12, Try.ntmps12
  go_wp2_with fail
  refine (HR.out _ (by repeat (first | exact Below.refl _ _ | apply below_alloc))).mono ?_
  rintro e w1 ⟨rfl, hb1⟩
  obtain ⟨hB, hP, hX⟩ := start1 hb1
  have HB1 := Lib.hid hB
  have HBP1 : Hid (w1.heap[w.heap.size]? = some (boxP p)) := hP
  have HBX1 : Hid (w1.heap[w.heap.size + 1]? = some zeroM) := hX
  clear hb1 hB hP hX
  have cp1 : w1.cell? ⟨w.heap.size, 0, none⟩ = some (.string p) := blk_cell HBP1.out 0
  have x0_1 : w1.cell? ⟨w.heap.size + 1, 0, none⟩ = some (.string ⟨#[]⟩) := blk_cell HBX1.out 0
  have f0_1 := blk_frozen HBX1.out 0
  have x1_1 : w1.cell? ⟨w.heap.size + 1, 1, none⟩ = some (.int .i64 0) := blk_cell HBX1.out 1
  have f1_1 := blk_frozen HBX1.out 1
  have x2_1 : w1.cell? ⟨w.heap.size + 1, 2, none⟩ = some (.int .i64 0) := blk_cell HBX1.out 2
  have f2_1 := blk_frozen HBX1.out 2
  have x3_1 : w1.cell? ⟨w.heap.size + 1, 3, none⟩ = some (.int .i64 0) := blk_cell HBX1.out 3
  have f3_1 := blk_frozen HBX1.out 3
  have b0_1 : w1.cell? _ = _ := (HB1.out.cell (World.block_lt_of_cell? w _ HY.out.1)).trans HY.out.1
  have b1_1 : w1.cell? _ = _ := (HB1.out.cell (World.block_lt_of_cell? w _ HY.out.2.1)).trans HY.out.2.1
  have b2_1 : w1.cell? _ = _ := (HB1.out.cell (World.block_lt_of_cell? w _ HY.out.2.2.1)).trans HY.out.2.2.1
  have b3_1 : w1.cell? _ = _ := (HB1.out.cell (World.block_lt_of_cell? w _ HY.out.2.2.2)).trans HY.out.2.2.2
  go_wp2_with fail
  refine (HP.out _).mono ?_
  rintro e w2 ⟨rfl, hb⟩
  clear cp1 x0_1 f0_1 x1_1 f1_1 x2_1 f2_1 x3_1 f3_1 b0_1 b1_1 b2_1 b3_1
  have HB2 : Hid (Below w.heap.size w w2) := below_step HB1.out hb
  have HBP2 : Hid (w2.heap[w.heap.size]? = some (boxP p)) := stepH HBP1.out hb
  have HBX2 : Hid (w2.heap[w.heap.size + 1]? = some zeroM) := stepH HBX1.out hb
  clear hb HB1 HBP1 HBX1
  have cp2 : w2.cell? ⟨w.heap.size, 0, none⟩ = some (.string p) := blk_cell HBP2.out 0
  have x0_2 : w2.cell? ⟨w.heap.size + 1, 0, none⟩ = some (.string ⟨#[]⟩) := blk_cell HBX2.out 0
  have f0_2 := blk_frozen HBX2.out 0
  have x1_2 : w2.cell? ⟨w.heap.size + 1, 1, none⟩ = some (.int .i64 0) := blk_cell HBX2.out 1
  have f1_2 := blk_frozen HBX2.out 1
  have x2_2 : w2.cell? ⟨w.heap.size + 1, 2, none⟩ = some (.int .i64 0) := blk_cell HBX2.out 2
  have f2_2 := blk_frozen HBX2.out 2
  have x3_2 : w2.cell? ⟨w.heap.size + 1, 3, none⟩ = some (.int .i64 0) := blk_cell HBX2.out 3
  have f3_2 := blk_frozen HBX2.out 3
  have b0_2 : w2.cell? _ = _ := (HB2.out.cell (World.block_lt_of_cell? w _ HY.out.1)).trans HY.out.1
  have b1_2 : w2.cell? _ = _ := (HB2.out.cell (World.block_lt_of_cell? w _ HY.out.2.1)).trans HY.out.2.1
  have b2_2 : w2.cell? _ = _ := (HB2.out.cell (World.block_lt_of_cell? w _ HY.out.2.2.1)).trans HY.out.2.2.1
  have b3_2 : w2.cell? _ = _ := (HB2.out.cell (World.block_lt_of_cell? w _ HY.out.2.2.2)).trans HY.out.2.2.2
  go_wp2_with fail
  refine (HG.out _).mono ?_
  rintro e w3 ⟨rfl, hb⟩
  clear cp2 x0_2 f0_2 x1_2 f1_2 x2_2 f2_2 x3_2 f3_2 b0_2 b1_2 b2_2 b3_2
  have HB3 : Hid (Below w.heap.size w w3) := below_step HB2.out hb
  have HBP3 : Hid (w3.heap[w.heap.size]? = some (boxP p)) := stepH HBP2.out hb
  have HBX3 : Hid (w3.heap[w.heap.size + 1]? = some zeroM) := stepH HBX2.out hb
  clear hb HB2 HBP2 HBX2
  have cp3 : w3.cell? ⟨w.heap.size, 0, none⟩ = some (.string p) := blk_cell HBP3.out 0
  have x0_3 : w3.cell? ⟨w.heap.size + 1, 0, none⟩ = some (.string ⟨#[]⟩) := blk_cell HBX3.out 0
  have f0_3 := blk_frozen HBX3.out 0
  have x1_3 : w3.cell? ⟨w.heap.size + 1, 1, none⟩ = some (.int .i64 0) := blk_cell HBX3.out 1
  have f1_3 := blk_frozen HBX3.out 1
  have x2_3 : w3.cell? ⟨w.heap.size + 1, 2, none⟩ = some (.int .i64 0) := blk_cell HBX3.out 2
  have f2_3 := blk_frozen HBX3.out 2
  have x3_3 : w3.cell? ⟨w.heap.size + 1, 3, none⟩ = some (.int .i64 0) := blk_cell HBX3.out 3
  have f3_3 := blk_frozen HBX3.out 3
  have b0_3 : w3.cell? _ = _ := (HB3.out.cell (World.block_lt_of_cell? w _ HY.out.1)).trans HY.out.1
  have b1_3 : w3.cell? _ = _ := (HB3.out.cell (World.block_lt_of_cell? w _ HY.out.2.1)).trans HY.out.2.1
  have b2_3 : w3.cell? _ = _ := (HB3.out.cell (World.block_lt_of_cell? w _ HY.out.2.2.1)).trans HY.out.2.2.1
  have b3_3 : w3.cell? _ = _ := (HB3.out.cell (World.block_lt_of_cell? w _ HY.out.2.2.2)).trans HY.out.2.2.2
  go_wp2_with fail
  refine (HF.out _ HB3.out).mono ?_
  rintro e w4 ⟨rfl, hb⟩
  clear cp3 x0_3 f0_3 x1_3 f1_3 x2_3 f2_3 x3_3 f3_3 b0_3 b1_3 b2_3 b3_3
  have HB4 : Hid (Below w.heap.size w w4) := below_step HB3.out hb
  have HBP4 : Hid (w4.heap[w.heap.size]? = some (boxP p)) := stepH HBP3.out hb
  have HBX4 : Hid (w4.heap[w.heap.size + 1]? = some zeroM) := stepH HBX3.out hb
  clear hb HB3 HBP3 HBX3
  have cp4 : w4.cell? ⟨w.heap.size, 0, none⟩ = some (.string p) := blk_cell HBP4.out 0
  have x0_4 : w4.cell? ⟨w.heap.size + 1, 0, none⟩ = some (.string ⟨#[]⟩) := blk_cell HBX4.out 0
  have f0_4 := blk_frozen HBX4.out 0
  have x1_4 : w4.cell? ⟨w.heap.size + 1, 1, none⟩ = some (.int .i64 0) := blk_cell HBX4.out 1
  have f1_4 := blk_frozen HBX4.out 1
  have x2_4 : w4.cell? ⟨w.heap.size + 1, 2, none⟩ = some (.int .i64 0) := blk_cell HBX4.out 2
  have f2_4 := blk_frozen HBX4.out 2
  have x3_4 : w4.cell? ⟨w.heap.size + 1, 3, none⟩ = some (.int .i64 0) := blk_cell HBX4.out 3
  have f3_4 := blk_frozen HBX4.out 3
  have b0_4 : w4.cell? _ = _ := (HB4.out.cell (World.block_lt_of_cell? w _ HY.out.1)).trans HY.out.1
  have b1_4 : w4.cell? _ = _ := (HB4.out.cell (World.block_lt_of_cell? w _ HY.out.2.1)).trans HY.out.2.1
  have b2_4 : w4.cell? _ = _ := (HB4.out.cell (World.block_lt_of_cell? w _ HY.out.2.2.1)).trans HY.out.2.2.1
  have b3_4 : w4.cell? _ = _ := (HB4.out.cell (World.block_lt_of_cell? w _ HY.out.2.2.2)).trans HY.out.2.2.2
  go_wp2_with fail
  refine (HBU.out _ _ HBP4.out HB4.out).mono ?_
  rintro e w5 ⟨rfl, hb⟩
  clear cp4 x0_4 f0_4 x1_4 f1_4 x2_4 f2_4 x3_4 f3_4 b0_4 b1_4 b2_4 b3_4
  have HB5 : Hid (Below w.heap.size w w5) := below_step HB4.out hb
  have HBP5 : Hid (w5.heap[w.heap.size]? = some (boxP p)) := stepH HBP4.out hb
  have HBX5 : Hid (w5.heap[w.heap.size + 1]? = some zeroM) := stepH HBX4.out hb
  clear hb HB4 HBP4 HBX4
  have cp5 : w5.cell? ⟨w.heap.size, 0, none⟩ = some (.string p) := blk_cell HBP5.out 0
  have x0_5 : w5.cell? ⟨w.heap.size + 1, 0, none⟩ = some (.string ⟨#[]⟩) := blk_cell HBX5.out 0
  have f0_5 := blk_frozen HBX5.out 0
  have x1_5 : w5.cell? ⟨w.heap.size + 1, 1, none⟩ = some (.int .i64 0) := blk_cell HBX5.out 1
  have f1_5 := blk_frozen HBX5.out 1
  have x2_5 : w5.cell? ⟨w.heap.size + 1, 2, none⟩ = some (.int .i64 0) := blk_cell HBX5.out 2
  have f2_5 := blk_frozen HBX5.out 2
  have x3_5 : w5.cell? ⟨w.heap.size + 1, 3, none⟩ = some (.int .i64 0) := blk_cell HBX5.out 3
  have f3_5 := blk_frozen HBX5.out 3
  have b0_5 : w5.cell? _ = _ := (HB5.out.cell (World.block_lt_of_cell? w _ HY.out.1)).trans HY.out.1
  have b1_5 : w5.cell? _ = _ := (HB5.out.cell (World.block_lt_of_cell? w _ HY.out.2.1)).trans HY.out.2.1
  have b2_5 : w5.cell? _ = _ := (HB5.out.cell (World.block_lt_of_cell? w _ HY.out.2.2.1)).trans HY.out.2.2.1
  have b3_5 : w5.cell? _ = _ := (HB5.out.cell (World.block_lt_of_cell? w _ HY.out.2.2.2)).trans HY.out.2.2.2
  go_wp2_with fail
  refine (HOF.out _ HB5.out).mono ?_
  rintro e w6 ⟨rfl, hb⟩
  clear cp5 x0_5 f0_5 x1_5 f1_5 x2_5 f2_5 x3_5 f3_5 b0_5 b1_5 b2_5 b3_5
  have HB6 : Hid (Below w.heap.size w w6) := below_step HB5.out hb
  have HBP6 : Hid (w6.heap[w.heap.size]? = some (boxP p)) := stepH HBP5.out hb
  have HBX6 : Hid (w6.heap[w.heap.size + 1]? = some zeroM) := stepH HBX5.out hb
  clear hb HB5 HBP5 HBX5
  have cp6 : w6.cell? ⟨w.heap.size, 0, none⟩ = some (.string p) := blk_cell HBP6.out 0
  have x0_6 : w6.cell? ⟨w.heap.size + 1, 0, none⟩ = some (.string ⟨#[]⟩) := blk_cell HBX6.out 0
  have f0_6 := blk_frozen HBX6.out 0
  have x1_6 : w6.cell? ⟨w.heap.size + 1, 1, none⟩ = some (.int .i64 0) := blk_cell HBX6.out 1
  have f1_6 := blk_frozen HBX6.out 1
  have x2_6 : w6.cell? ⟨w.heap.size + 1, 2, none⟩ = some (.int .i64 0) := blk_cell HBX6.out 2
  have f2_6 := blk_frozen HBX6.out 2
  have x3_6 : w6.cell? ⟨w.heap.size + 1, 3, none⟩ = some (.int .i64 0) := blk_cell HBX6.out 3
  have f3_6 := blk_frozen HBX6.out 3
  have b0_6 : w6.cell? _ = _ := (HB6.out.cell (World.block_lt_of_cell? w _ HY.out.1)).trans HY.out.1
  have b1_6 : w6.cell? _ = _ := (HB6.out.cell (World.block_lt_of_cell? w _ HY.out.2.1)).trans HY.out.2.1
  have b2_6 : w6.cell? _ = _ := (HB6.out.cell (World.block_lt_of_cell? w _ HY.out.2.2.1)).trans HY.out.2.2.1
  have b3_6 : w6.cell? _ = _ := (HB6.out.cell (World.block_lt_of_cell? w _ HY.out.2.2.2)).trans HY.out.2.2.2
  have g0 := blk_lt HBP6.out
  have g1 := blk_lt HBX6.out
  go_wp2_with fail
  refine bodyPost_ret (results_list (rs := [.tmp 6, .cell 7 27, .tmp 8]) rfl (by simp) (.tmp (.cell (w.heap.size + 1) 27 _ (0, 0) _ rfl (setXa HBX6.out _ _ _ _ _) Try.underlying27 rfl (by kernel_rfl) (.tmp .nil)))) rfl ?_
  refine ⟨_, rfl, Kd.V_mono (Kd.V_below HV.out ?_) (fun _ hk => .inl hk), ?_⟩
  all_goals repeat (first | exact HB6.out | refine below_alloc ?_ _ | refine Below.drew ?_ | refine Below.setCell ?_ (Nat.le_succ _) _)

set_option maxHeartbeats 8000000 in
set_option maxRecDepth 100000 in
theorem begin_there_A (P0 : Nat → Prop) (A : Option Addr) (c : Nat) (l : List S27) (p : ByteArray) (d : Int) (j : Nat) (w : World) (hv : Kd.V k27 27 w w.heap.size P0 (.slice A l.length c) l) (hr : Kd.C k27 w A l.length l) (hc : l.length ≤ c)
    (h1 : mounts_Right.f (l.length + 10) l = some true) (h2 : path_Right.f p = some true) (h3 : mounts_group.f d = some true) (h32 : l.length ≤ 32) (hall : l.all (inOk p) = true) (hof : mounts_Of.f (kOf l) l p = some (j : Int)) (hj : j < l.length) (ho : own_ p l = false) (hbu : l.any (busyB p) = false) (hz : ((rd_T27 l (j : Nat)).f1 == d) = true) :
    Calls Try.prog 12 #[.slice A l.length c, .string p, .int .i64 d] w (Post w P0 l ⟨#[]⟩ 0 0 0 61) := by
  have HR := Lib.hid (fun W (hW : Below w.heap.size w W) => mounts_Right.calls (l.length + 10) A c l true W (Kd.C_below hr hW) hc h1)
  have HP := Lib.hid (fun W => path_Right.calls p true W h2)
  have HG := Lib.hid (fun W => (mounts_group.calls d true W h3).mono (fun e w' (h : _ ∧ _) => And.intro h.1 h.2.below))
  have HF := Lib.hid (fun W (hW : Below w.heap.size w W) => find_calls A c l p W (Kd.C_below hr hW) (by omega))
  have HBU := Lib.hid (fun W g (hg : W.heap[g]? = some (.cells #[.string p] 9 (0, 0))) (hW : Below w.heap.size w W) => IMount.contains_calls 28 #[.pointer (some ⟨g, 0, none⟩)] (enters_of Try.func28 (by kernel_rfl) rfl) (busyB p) A c l W (busy_pred p g l W hall hg) (Kd.C_below hr hW) (by omega))
  have HOF := Lib.hid (fun W (hW : Below w.heap.size w W) => mounts_Of.calls (kOf l) A c l p (j : Int) W (Kd.C_below hr hW) hc hof)
  obtain ⟨ad, ea, hy0, hy1, hy2, hy3⟩ := at_T27 hr (j : Nat) (by omega) (by omega)
  simp only [Int.toNat_natCast] at hy0 hy1 hy2 hy3
  have HV := Lib.hid hv
  rw [ho] at HF
  rw [hbu] at HBU
  have HLE := Lib.hid (at_le p l)
  obtain ⟨i, hi⟩ : ∃ i, at_ p l = i := ⟨_, rfl⟩
  rw [hi] at HF HLE 
  (try rw [hi])
  obtain ⟨y, hyy⟩ : ∃ y, rd_T27 l (j : Nat) = y := ⟨_, rfl⟩
  rw [hyy] at hy0 hy1 hy2 hy3 hz
  (try rw [hyy])
  have HY := Lib.hid (And.intro hy0 (And.intro hy1 (And.intro hy2 hy3)))
  obtain ⟨n, hn⟩ : ∃ n, l.length = n := ⟨_, rfl⟩
  have HN := Lib.hid hn
  rw [hn] at HR HF HBU HOF HV hj h32 ⊢
  have hjz : (j : Int) < (n : Int) := by omega
  clear hr hc h1 h2 h3 ho hv hy0 hy1 hy2 hy3 hi hyy hof hall hbu 
  cases ea
  
  
  go_enter Try.func12, Try.ntmps12
  go_wp2_with fail
  refine (HR.out _ (by repeat (first | exact Below.refl _ _ | apply below_alloc))).mono ?_
  rintro e w1 ⟨rfl, hb1⟩
  obtain ⟨hB, hP, hX⟩ := start1 hb1
  have HB1 := Lib.hid hB
  have HBP1 : Hid (w1.heap[w.heap.size]? = some (boxP p)) := hP
  have HBX1 : Hid (w1.heap[w.heap.size + 1]? = some zeroM) := hX
  clear hb1 hB hP hX
  have cp1 : w1.cell? ⟨w.heap.size, 0, none⟩ = some (.string p) := blk_cell HBP1.out 0
  have x0_1 : w1.cell? ⟨w.heap.size + 1, 0, none⟩ = some (.string ⟨#[]⟩) := blk_cell HBX1.out 0
  have f0_1 := blk_frozen HBX1.out 0
  have x1_1 : w1.cell? ⟨w.heap.size + 1, 1, none⟩ = some (.int .i64 0) := blk_cell HBX1.out 1
  have f1_1 := blk_frozen HBX1.out 1
  have x2_1 : w1.cell? ⟨w.heap.size + 1, 2, none⟩ = some (.int .i64 0) := blk_cell HBX1.out 2
  have f2_1 := blk_frozen HBX1.out 2
  have x3_1 : w1.cell? ⟨w.heap.size + 1, 3, none⟩ = some (.int .i64 0) := blk_cell HBX1.out 3
  have f3_1 := blk_frozen HBX1.out 3
  have b0_1 : w1.cell? _ = _ := (HB1.out.cell (World.block_lt_of_cell? w _ HY.out.1)).trans HY.out.1
  have b1_1 : w1.cell? _ = _ := (HB1.out.cell (World.block_lt_of_cell? w _ HY.out.2.1)).trans HY.out.2.1
  have b2_1 : w1.cell? _ = _ := (HB1.out.cell (World.block_lt_of_cell? w _ HY.out.2.2.1)).trans HY.out.2.2.1
  have b3_1 : w1.cell? _ = _ := (HB1.out.cell (World.block_lt_of_cell? w _ HY.out.2.2.2)).trans HY.out.2.2.2
  go_wp2_with fail
  refine (HP.out _).mono ?_
  rintro e w2 ⟨rfl, hb⟩
  clear cp1 x0_1 f0_1 x1_1 f1_1 x2_1 f2_1 x3_1 f3_1 b0_1 b1_1 b2_1 b3_1
  have HB2 : Hid (Below w.heap.size w w2) := below_step HB1.out hb
  have HBP2 : Hid (w2.heap[w.heap.size]? = some (boxP p)) := stepH HBP1.out hb
  have HBX2 : Hid (w2.heap[w.heap.size + 1]? = some zeroM) := stepH HBX1.out hb
  clear hb HB1 HBP1 HBX1
  have cp2 : w2.cell? ⟨w.heap.size, 0, none⟩ = some (.string p) := blk_cell HBP2.out 0
  have x0_2 : w2.cell? ⟨w.heap.size + 1, 0, none⟩ = some (.string ⟨#[]⟩) := blk_cell HBX2.out 0
  have f0_2 := blk_frozen HBX2.out 0
  have x1_2 : w2.cell? ⟨w.heap.size + 1, 1, none⟩ = some (.int .i64 0) := blk_cell HBX2.out 1
  have f1_2 := blk_frozen HBX2.out 1
  have x2_2 : w2.cell? ⟨w.heap.size + 1, 2, none⟩ = some (.int .i64 0) := blk_cell HBX2.out 2
  have f2_2 := blk_frozen HBX2.out 2
  have x3_2 : w2.cell? ⟨w.heap.size + 1, 3, none⟩ = some (.int .i64 0) := blk_cell HBX2.out 3
  have f3_2 := blk_frozen HBX2.out 3
  have b0_2 : w2.cell? _ = _ := (HB2.out.cell (World.block_lt_of_cell? w _ HY.out.1)).trans HY.out.1
  have b1_2 : w2.cell? _ = _ := (HB2.out.cell (World.block_lt_of_cell? w _ HY.out.2.1)).trans HY.out.2.1
  have b2_2 : w2.cell? _ = _ := (HB2.out.cell (World.block_lt_of_cell? w _ HY.out.2.2.1)).trans HY.out.2.2.1
  have b3_2 : w2.cell? _ = _ := (HB2.out.cell (World.block_lt_of_cell? w _ HY.out.2.2.2)).trans HY.out.2.2.2
  go_wp2_with fail
  refine (HG.out _).mono ?_
  rintro e w3 ⟨rfl, hb⟩
  clear cp2 x0_2 f0_2 x1_2 f1_2 x2_2 f2_2 x3_2 f3_2 b0_2 b1_2 b2_2 b3_2
  have HB3 : Hid (Below w.heap.size w w3) := below_step HB2.out hb
  have HBP3 : Hid (w3.heap[w.heap.size]? = some (boxP p)) := stepH HBP2.out hb
  have HBX3 : Hid (w3.heap[w.heap.size + 1]? = some zeroM) := stepH HBX2.out hb
  clear hb HB2 HBP2 HBX2
  have cp3 : w3.cell? ⟨w.heap.size, 0, none⟩ = some (.string p) := blk_cell HBP3.out 0
  have x0_3 : w3.cell? ⟨w.heap.size + 1, 0, none⟩ = some (.string ⟨#[]⟩) := blk_cell HBX3.out 0
  have f0_3 := blk_frozen HBX3.out 0
  have x1_3 : w3.cell? ⟨w.heap.size + 1, 1, none⟩ = some (.int .i64 0) := blk_cell HBX3.out 1
  have f1_3 := blk_frozen HBX3.out 1
  have x2_3 : w3.cell? ⟨w.heap.size + 1, 2, none⟩ = some (.int .i64 0) := blk_cell HBX3.out 2
  have f2_3 := blk_frozen HBX3.out 2
  have x3_3 : w3.cell? ⟨w.heap.size + 1, 3, none⟩ = some (.int .i64 0) := blk_cell HBX3.out 3
  have f3_3 := blk_frozen HBX3.out 3
  have b0_3 : w3.cell? _ = _ := (HB3.out.cell (World.block_lt_of_cell? w _ HY.out.1)).trans HY.out.1
  have b1_3 : w3.cell? _ = _ := (HB3.out.cell (World.block_lt_of_cell? w _ HY.out.2.1)).trans HY.out.2.1
  have b2_3 : w3.cell? _ = _ := (HB3.out.cell (World.block_lt_of_cell? w _ HY.out.2.2.1)).trans HY.out.2.2.1
  have b3_3 : w3.cell? _ = _ := (HB3.out.cell (World.block_lt_of_cell? w _ HY.out.2.2.2)).trans HY.out.2.2.2
  go_wp2_with fail
  refine (HF.out _ HB3.out).mono ?_
  rintro e w4 ⟨rfl, hb⟩
  clear cp3 x0_3 f0_3 x1_3 f1_3 x2_3 f2_3 x3_3 f3_3 b0_3 b1_3 b2_3 b3_3
  have HB4 : Hid (Below w.heap.size w w4) := below_step HB3.out hb
  have HBP4 : Hid (w4.heap[w.heap.size]? = some (boxP p)) := stepH HBP3.out hb
  have HBX4 : Hid (w4.heap[w.heap.size + 1]? = some zeroM) := stepH HBX3.out hb
  clear hb HB3 HBP3 HBX3
  have cp4 : w4.cell? ⟨w.heap.size, 0, none⟩ = some (.string p) := blk_cell HBP4.out 0
  have x0_4 : w4.cell? ⟨w.heap.size + 1, 0, none⟩ = some (.string ⟨#[]⟩) := blk_cell HBX4.out 0
  have f0_4 := blk_frozen HBX4.out 0
  have x1_4 : w4.cell? ⟨w.heap.size + 1, 1, none⟩ = some (.int .i64 0) := blk_cell HBX4.out 1
  have f1_4 := blk_frozen HBX4.out 1
  have x2_4 : w4.cell? ⟨w.heap.size + 1, 2, none⟩ = some (.int .i64 0) := blk_cell HBX4.out 2
  have f2_4 := blk_frozen HBX4.out 2
  have x3_4 : w4.cell? ⟨w.heap.size + 1, 3, none⟩ = some (.int .i64 0) := blk_cell HBX4.out 3
  have f3_4 := blk_frozen HBX4.out 3
  have b0_4 : w4.cell? _ = _ := (HB4.out.cell (World.block_lt_of_cell? w _ HY.out.1)).trans HY.out.1
  have b1_4 : w4.cell? _ = _ := (HB4.out.cell (World.block_lt_of_cell? w _ HY.out.2.1)).trans HY.out.2.1
  have b2_4 : w4.cell? _ = _ := (HB4.out.cell (World.block_lt_of_cell? w _ HY.out.2.2.1)).trans HY.out.2.2.1
  have b3_4 : w4.cell? _ = _ := (HB4.out.cell (World.block_lt_of_cell? w _ HY.out.2.2.2)).trans HY.out.2.2.2
  go_wp2_with fail
  refine (HBU.out _ _ HBP4.out HB4.out).mono ?_
  rintro e w5 ⟨rfl, hb⟩
  clear cp4 x0_4 f0_4 x1_4 f1_4 x2_4 f2_4 x3_4 f3_4 b0_4 b1_4 b2_4 b3_4
  have HB5 : Hid (Below w.heap.size w w5) := below_step HB4.out hb
  have HBP5 : Hid (w5.heap[w.heap.size]? = some (boxP p)) := stepH HBP4.out hb
  have HBX5 : Hid (w5.heap[w.heap.size + 1]? = some zeroM) := stepH HBX4.out hb
  clear hb HB4 HBP4 HBX4
  have cp5 : w5.cell? ⟨w.heap.size, 0, none⟩ = some (.string p) := blk_cell HBP5.out 0
  have x0_5 : w5.cell? ⟨w.heap.size + 1, 0, none⟩ = some (.string ⟨#[]⟩) := blk_cell HBX5.out 0
  have f0_5 := blk_frozen HBX5.out 0
  have x1_5 : w5.cell? ⟨w.heap.size + 1, 1, none⟩ = some (.int .i64 0) := blk_cell HBX5.out 1
  have f1_5 := blk_frozen HBX5.out 1
  have x2_5 : w5.cell? ⟨w.heap.size + 1, 2, none⟩ = some (.int .i64 0) := blk_cell HBX5.out 2
  have f2_5 := blk_frozen HBX5.out 2
  have x3_5 : w5.cell? ⟨w.heap.size + 1, 3, none⟩ = some (.int .i64 0) := blk_cell HBX5.out 3
  have f3_5 := blk_frozen HBX5.out 3
  have b0_5 : w5.cell? _ = _ := (HB5.out.cell (World.block_lt_of_cell? w _ HY.out.1)).trans HY.out.1
  have b1_5 : w5.cell? _ = _ := (HB5.out.cell (World.block_lt_of_cell? w _ HY.out.2.1)).trans HY.out.2.1
  have b2_5 : w5.cell? _ = _ := (HB5.out.cell (World.block_lt_of_cell? w _ HY.out.2.2.1)).trans HY.out.2.2.1
  have b3_5 : w5.cell? _ = _ := (HB5.out.cell (World.block_lt_of_cell? w _ HY.out.2.2.2)).trans HY.out.2.2.2
  go_wp2_with fail
  refine (HOF.out _ HB5.out).mono ?_
  rintro e w6 ⟨rfl, hb⟩
  clear cp5 x0_5 f0_5 x1_5 f1_5 x2_5 f2_5 x3_5 f3_5 b0_5 b1_5 b2_5 b3_5
  have HB6 : Hid (Below w.heap.size w w6) := below_step HB5.out hb
  have HBP6 : Hid (w6.heap[w.heap.size]? = some (boxP p)) := stepH HBP5.out hb
  have HBX6 : Hid (w6.heap[w.heap.size + 1]? = some zeroM) := stepH HBX5.out hb
  clear hb HB5 HBP5 HBX5
  have cp6 : w6.cell? ⟨w.heap.size, 0, none⟩ = some (.string p) := blk_cell HBP6.out 0
  have x0_6 : w6.cell? ⟨w.heap.size + 1, 0, none⟩ = some (.string ⟨#[]⟩) := blk_cell HBX6.out 0
  have f0_6 := blk_frozen HBX6.out 0
  have x1_6 : w6.cell? ⟨w.heap.size + 1, 1, none⟩ = some (.int .i64 0) := blk_cell HBX6.out 1
  have f1_6 := blk_frozen HBX6.out 1
  have x2_6 : w6.cell? ⟨w.heap.size + 1, 2, none⟩ = some (.int .i64 0) := blk_cell HBX6.out 2
  have f2_6 := blk_frozen HBX6.out 2
  have x3_6 : w6.cell? ⟨w.heap.size + 1, 3, none⟩ = some (.int .i64 0) := blk_cell HBX6.out 3
  have f3_6 := blk_frozen HBX6.out 3
  have b0_6 : w6.cell? _ = _ := (HB6.out.cell (World.block_lt_of_cell? w _ HY.out.1)).trans HY.out.1
  have b1_6 : w6.cell? _ = _ := (HB6.out.cell (World.block_lt_of_cell? w _ HY.out.2.1)).trans HY.out.2.1
  have b2_6 : w6.cell? _ = _ := (HB6.out.cell (World.block_lt_of_cell? w _ HY.out.2.2.1)).trans HY.out.2.2.1
  have b3_6 : w6.cell? _ = _ := (HB6.out.cell (World.block_lt_of_cell? w _ HY.out.2.2.2)).trans HY.out.2.2.2
  have g0 := blk_lt HBP6.out
  have g1 := blk_lt HBX6.out
  go_wp2_with fail
  refine bodyPost_ret (results_list (rs := [.tmp 6, .cell 7 27, .tmp 8]) rfl (by simp) (.tmp (.cell (w.heap.size + 1) 27 _ (0, 0) _ rfl (setXa HBX6.out _ _ _ _ _) Try.underlying27 rfl (by kernel_rfl) (.tmp .nil)))) rfl ?_
  refine ⟨_, rfl, Kd.V_mono (Kd.V_below HV.out ?_) (fun _ hk => .inl hk), ?_⟩
  all_goals repeat (first | exact HB6.out | refine below_alloc ?_ _ | refine Below.drew ?_ | refine Below.setCell ?_ (Nat.le_succ _) _)

set_option maxHeartbeats 8000000 in
set_option maxRecDepth 100000 in
theorem begin_many_A (P0 : Nat → Prop) (A : Option Addr) (c : Nat) (l : List S27) (p : ByteArray) (d : Int) (j : Nat) (w : World) (hv : Kd.V k27 27 w w.heap.size P0 (.slice A l.length c) l) (hr : Kd.C k27 w A l.length l) (hc : l.length ≤ c)
    (h1 : mounts_Right.f (l.length + 10) l = some true) (h2 : path_Right.f p = some true) (h3 : mounts_group.f d = some true) (h32 : l.length ≤ 32) (hall : l.all (inOk p) = true) (hof : mounts_Of.f (kOf l) l p = some (j : Int)) (hj : j < l.length) (ho : own_ p l = false) (hbu : l.any (busyB p) = false) (hz : ((rd_T27 l (j : Nat)).f1 == d) = false) (hlen : ((l.length : Int) == 32) = true) :
    Calls Try.prog 12 #[.slice A l.length c, .string p, .int .i64 d] w (Post w P0 l ⟨#[]⟩ 0 0 0 2) := by
  have HR := Lib.hid (fun W (hW : Below w.heap.size w W) => mounts_Right.calls (l.length + 10) A c l true W (Kd.C_below hr hW) hc h1)
  have HP := Lib.hid (fun W => path_Right.calls p true W h2)
  have HG := Lib.hid (fun W => (mounts_group.calls d true W h3).mono (fun e w' (h : _ ∧ _) => And.intro h.1 h.2.below))
  have HF := Lib.hid (fun W (hW : Below w.heap.size w W) => find_calls A c l p W (Kd.C_below hr hW) (by omega))
  have HBU := Lib.hid (fun W g (hg : W.heap[g]? = some (.cells #[.string p] 9 (0, 0))) (hW : Below w.heap.size w W) => IMount.contains_calls 28 #[.pointer (some ⟨g, 0, none⟩)] (enters_of Try.func28 (by kernel_rfl) rfl) (busyB p) A c l W (busy_pred p g l W hall hg) (Kd.C_below hr hW) (by omega))
  have HOF := Lib.hid (fun W (hW : Below w.heap.size w W) => mounts_Of.calls (kOf l) A c l p (j : Int) W (Kd.C_below hr hW) hc hof)
  obtain ⟨ad, ea, hy0, hy1, hy2, hy3⟩ := at_T27 hr (j : Nat) (by omega) (by omega)
  simp only [Int.toNat_natCast] at hy0 hy1 hy2 hy3
  have HV := Lib.hid hv
  rw [ho] at HF
  rw [hbu] at HBU
  have HLE := Lib.hid (at_le p l)
  obtain ⟨i, hi⟩ : ∃ i, at_ p l = i := ⟨_, rfl⟩
  rw [hi] at HF HLE 
  (try rw [hi])
  obtain ⟨y, hyy⟩ : ∃ y, rd_T27 l (j : Nat) = y := ⟨_, rfl⟩
  rw [hyy] at hy0 hy1 hy2 hy3 hz
  (try rw [hyy])
  have HY := Lib.hid (And.intro hy0 (And.intro hy1 (And.intro hy2 hy3)))
  obtain ⟨n, hn⟩ : ∃ n, l.length = n := ⟨_, rfl⟩
  have HN := Lib.hid hn
  rw [hn] at HR HF HBU HOF HV hj h32 hlen ⊢
  have hjz : (j : Int) < (n : Int) := by omega
  clear hr hc h1 h2 h3 ho hv hy0 hy1 hy2 hy3 hi hyy hof hall hbu 
  cases ea
  
  
  go_enter Try.func12, Try.ntmps12
  go_wp2_with fail
  refine (HR.out _ (by repeat (first | exact Below.refl _ _ | apply below_alloc))).mono ?_
  rintro e w1 ⟨rfl, hb1⟩
  obtain ⟨hB, hP, hX⟩ := start1 hb1
  have HB1 := Lib.hid hB
  have HBP1 : Hid (w1.heap[w.heap.size]? = some (boxP p)) := hP
  have HBX1 : Hid (w1.heap[w.heap.size + 1]? = some zeroM) := hX
  clear hb1 hB hP hX
  have cp1 : w1.cell? ⟨w.heap.size, 0, none⟩ = some (.string p) := blk_cell HBP1.out 0
  have x0_1 : w1.cell? ⟨w.heap.size + 1, 0, none⟩ = some (.string ⟨#[]⟩) := blk_cell HBX1.out 0
  have f0_1 := blk_frozen HBX1.out 0
  have x1_1 : w1.cell? ⟨w.heap.size + 1, 1, none⟩ = some (.int .i64 0) := blk_cell HBX1.out 1
  have f1_1 := blk_frozen HBX1.out 1
  have x2_1 : w1.cell? ⟨w.heap.size + 1, 2, none⟩ = some (.int .i64 0) := blk_cell HBX1.out 2
  have f2_1 := blk_frozen HBX1.out 2
  have x3_1 : w1.cell? ⟨w.heap.size + 1, 3, none⟩ = some (.int .i64 0) := blk_cell HBX1.out 3
  have f3_1 := blk_frozen HBX1.out 3
  have b0_1 : w1.cell? _ = _ := (HB1.out.cell (World.block_lt_of_cell? w _ HY.out.1)).trans HY.out.1
  have b1_1 : w1.cell? _ = _ := (HB1.out.cell (World.block_lt_of_cell? w _ HY.out.2.1)).trans HY.out.2.1
  have b2_1 : w1.cell? _ = _ := (HB1.out.cell (World.block_lt_of_cell? w _ HY.out.2.2.1)).trans HY.out.2.2.1
  have b3_1 : w1.cell? _ = _ := (HB1.out.cell (World.block_lt_of_cell? w _ HY.out.2.2.2)).trans HY.out.2.2.2
  go_wp2_with fail
  refine (HP.out _).mono ?_
  rintro e w2 ⟨rfl, hb⟩
  clear cp1 x0_1 f0_1 x1_1 f1_1 x2_1 f2_1 x3_1 f3_1 b0_1 b1_1 b2_1 b3_1
  have HB2 : Hid (Below w.heap.size w w2) := below_step HB1.out hb
  have HBP2 : Hid (w2.heap[w.heap.size]? = some (boxP p)) := stepH HBP1.out hb
  have HBX2 : Hid (w2.heap[w.heap.size + 1]? = some zeroM) := stepH HBX1.out hb
  clear hb HB1 HBP1 HBX1
  have cp2 : w2.cell? ⟨w.heap.size, 0, none⟩ = some (.string p) := blk_cell HBP2.out 0
  have x0_2 : w2.cell? ⟨w.heap.size + 1, 0, none⟩ = some (.string ⟨#[]⟩) := blk_cell HBX2.out 0
  have f0_2 := blk_frozen HBX2.out 0
  have x1_2 : w2.cell? ⟨w.heap.size + 1, 1, none⟩ = some (.int .i64 0) := blk_cell HBX2.out 1
  have f1_2 := blk_frozen HBX2.out 1
  have x2_2 : w2.cell? ⟨w.heap.size + 1, 2, none⟩ = some (.int .i64 0) := blk_cell HBX2.out 2
  have f2_2 := blk_frozen HBX2.out 2
  have x3_2 : w2.cell? ⟨w.heap.size + 1, 3, none⟩ = some (.int .i64 0) := blk_cell HBX2.out 3
  have f3_2 := blk_frozen HBX2.out 3
  have b0_2 : w2.cell? _ = _ := (HB2.out.cell (World.block_lt_of_cell? w _ HY.out.1)).trans HY.out.1
  have b1_2 : w2.cell? _ = _ := (HB2.out.cell (World.block_lt_of_cell? w _ HY.out.2.1)).trans HY.out.2.1
  have b2_2 : w2.cell? _ = _ := (HB2.out.cell (World.block_lt_of_cell? w _ HY.out.2.2.1)).trans HY.out.2.2.1
  have b3_2 : w2.cell? _ = _ := (HB2.out.cell (World.block_lt_of_cell? w _ HY.out.2.2.2)).trans HY.out.2.2.2
  go_wp2_with fail
  refine (HG.out _).mono ?_
  rintro e w3 ⟨rfl, hb⟩
  clear cp2 x0_2 f0_2 x1_2 f1_2 x2_2 f2_2 x3_2 f3_2 b0_2 b1_2 b2_2 b3_2
  have HB3 : Hid (Below w.heap.size w w3) := below_step HB2.out hb
  have HBP3 : Hid (w3.heap[w.heap.size]? = some (boxP p)) := stepH HBP2.out hb
  have HBX3 : Hid (w3.heap[w.heap.size + 1]? = some zeroM) := stepH HBX2.out hb
  clear hb HB2 HBP2 HBX2
  have cp3 : w3.cell? ⟨w.heap.size, 0, none⟩ = some (.string p) := blk_cell HBP3.out 0
  have x0_3 : w3.cell? ⟨w.heap.size + 1, 0, none⟩ = some (.string ⟨#[]⟩) := blk_cell HBX3.out 0
  have f0_3 := blk_frozen HBX3.out 0
  have x1_3 : w3.cell? ⟨w.heap.size + 1, 1, none⟩ = some (.int .i64 0) := blk_cell HBX3.out 1
  have f1_3 := blk_frozen HBX3.out 1
  have x2_3 : w3.cell? ⟨w.heap.size + 1, 2, none⟩ = some (.int .i64 0) := blk_cell HBX3.out 2
  have f2_3 := blk_frozen HBX3.out 2
  have x3_3 : w3.cell? ⟨w.heap.size + 1, 3, none⟩ = some (.int .i64 0) := blk_cell HBX3.out 3
  have f3_3 := blk_frozen HBX3.out 3
  have b0_3 : w3.cell? _ = _ := (HB3.out.cell (World.block_lt_of_cell? w _ HY.out.1)).trans HY.out.1
  have b1_3 : w3.cell? _ = _ := (HB3.out.cell (World.block_lt_of_cell? w _ HY.out.2.1)).trans HY.out.2.1
  have b2_3 : w3.cell? _ = _ := (HB3.out.cell (World.block_lt_of_cell? w _ HY.out.2.2.1)).trans HY.out.2.2.1
  have b3_3 : w3.cell? _ = _ := (HB3.out.cell (World.block_lt_of_cell? w _ HY.out.2.2.2)).trans HY.out.2.2.2
  go_wp2_with fail
  refine (HF.out _ HB3.out).mono ?_
  rintro e w4 ⟨rfl, hb⟩
  clear cp3 x0_3 f0_3 x1_3 f1_3 x2_3 f2_3 x3_3 f3_3 b0_3 b1_3 b2_3 b3_3
  have HB4 : Hid (Below w.heap.size w w4) := below_step HB3.out hb
  have HBP4 : Hid (w4.heap[w.heap.size]? = some (boxP p)) := stepH HBP3.out hb
  have HBX4 : Hid (w4.heap[w.heap.size + 1]? = some zeroM) := stepH HBX3.out hb
  clear hb HB3 HBP3 HBX3
  have cp4 : w4.cell? ⟨w.heap.size, 0, none⟩ = some (.string p) := blk_cell HBP4.out 0
  have x0_4 : w4.cell? ⟨w.heap.size + 1, 0, none⟩ = some (.string ⟨#[]⟩) := blk_cell HBX4.out 0
  have f0_4 := blk_frozen HBX4.out 0
  have x1_4 : w4.cell? ⟨w.heap.size + 1, 1, none⟩ = some (.int .i64 0) := blk_cell HBX4.out 1
  have f1_4 := blk_frozen HBX4.out 1
  have x2_4 : w4.cell? ⟨w.heap.size + 1, 2, none⟩ = some (.int .i64 0) := blk_cell HBX4.out 2
  have f2_4 := blk_frozen HBX4.out 2
  have x3_4 : w4.cell? ⟨w.heap.size + 1, 3, none⟩ = some (.int .i64 0) := blk_cell HBX4.out 3
  have f3_4 := blk_frozen HBX4.out 3
  have b0_4 : w4.cell? _ = _ := (HB4.out.cell (World.block_lt_of_cell? w _ HY.out.1)).trans HY.out.1
  have b1_4 : w4.cell? _ = _ := (HB4.out.cell (World.block_lt_of_cell? w _ HY.out.2.1)).trans HY.out.2.1
  have b2_4 : w4.cell? _ = _ := (HB4.out.cell (World.block_lt_of_cell? w _ HY.out.2.2.1)).trans HY.out.2.2.1
  have b3_4 : w4.cell? _ = _ := (HB4.out.cell (World.block_lt_of_cell? w _ HY.out.2.2.2)).trans HY.out.2.2.2
  go_wp2_with fail
  refine (HBU.out _ _ HBP4.out HB4.out).mono ?_
  rintro e w5 ⟨rfl, hb⟩
  clear cp4 x0_4 f0_4 x1_4 f1_4 x2_4 f2_4 x3_4 f3_4 b0_4 b1_4 b2_4 b3_4
  have HB5 : Hid (Below w.heap.size w w5) := below_step HB4.out hb
  have HBP5 : Hid (w5.heap[w.heap.size]? = some (boxP p)) := stepH HBP4.out hb
  have HBX5 : Hid (w5.heap[w.heap.size + 1]? = some zeroM) := stepH HBX4.out hb
  clear hb HB4 HBP4 HBX4
  have cp5 : w5.cell? ⟨w.heap.size, 0, none⟩ = some (.string p) := blk_cell HBP5.out 0
  have x0_5 : w5.cell? ⟨w.heap.size + 1, 0, none⟩ = some (.string ⟨#[]⟩) := blk_cell HBX5.out 0
  have f0_5 := blk_frozen HBX5.out 0
  have x1_5 : w5.cell? ⟨w.heap.size + 1, 1, none⟩ = some (.int .i64 0) := blk_cell HBX5.out 1
  have f1_5 := blk_frozen HBX5.out 1
  have x2_5 : w5.cell? ⟨w.heap.size + 1, 2, none⟩ = some (.int .i64 0) := blk_cell HBX5.out 2
  have f2_5 := blk_frozen HBX5.out 2
  have x3_5 : w5.cell? ⟨w.heap.size + 1, 3, none⟩ = some (.int .i64 0) := blk_cell HBX5.out 3
  have f3_5 := blk_frozen HBX5.out 3
  have b0_5 : w5.cell? _ = _ := (HB5.out.cell (World.block_lt_of_cell? w _ HY.out.1)).trans HY.out.1
  have b1_5 : w5.cell? _ = _ := (HB5.out.cell (World.block_lt_of_cell? w _ HY.out.2.1)).trans HY.out.2.1
  have b2_5 : w5.cell? _ = _ := (HB5.out.cell (World.block_lt_of_cell? w _ HY.out.2.2.1)).trans HY.out.2.2.1
  have b3_5 : w5.cell? _ = _ := (HB5.out.cell (World.block_lt_of_cell? w _ HY.out.2.2.2)).trans HY.out.2.2.2
  go_wp2_with fail
  refine (HOF.out _ HB5.out).mono ?_
  rintro e w6 ⟨rfl, hb⟩
  clear cp5 x0_5 f0_5 x1_5 f1_5 x2_5 f2_5 x3_5 f3_5 b0_5 b1_5 b2_5 b3_5
  have HB6 : Hid (Below w.heap.size w w6) := below_step HB5.out hb
  have HBP6 : Hid (w6.heap[w.heap.size]? = some (boxP p)) := stepH HBP5.out hb
  have HBX6 : Hid (w6.heap[w.heap.size + 1]? = some zeroM) := stepH HBX5.out hb
  clear hb HB5 HBP5 HBX5
  have cp6 : w6.cell? ⟨w.heap.size, 0, none⟩ = some (.string p) := blk_cell HBP6.out 0
  have x0_6 : w6.cell? ⟨w.heap.size + 1, 0, none⟩ = some (.string ⟨#[]⟩) := blk_cell HBX6.out 0
  have f0_6 := blk_frozen HBX6.out 0
  have x1_6 : w6.cell? ⟨w.heap.size + 1, 1, none⟩ = some (.int .i64 0) := blk_cell HBX6.out 1
  have f1_6 := blk_frozen HBX6.out 1
  have x2_6 : w6.cell? ⟨w.heap.size + 1, 2, none⟩ = some (.int .i64 0) := blk_cell HBX6.out 2
  have f2_6 := blk_frozen HBX6.out 2
  have x3_6 : w6.cell? ⟨w.heap.size + 1, 3, none⟩ = some (.int .i64 0) := blk_cell HBX6.out 3
  have f3_6 := blk_frozen HBX6.out 3
  have b0_6 : w6.cell? _ = _ := (HB6.out.cell (World.block_lt_of_cell? w _ HY.out.1)).trans HY.out.1
  have b1_6 : w6.cell? _ = _ := (HB6.out.cell (World.block_lt_of_cell? w _ HY.out.2.1)).trans HY.out.2.1
  have b2_6 : w6.cell? _ = _ := (HB6.out.cell (World.block_lt_of_cell? w _ HY.out.2.2.1)).trans HY.out.2.2.1
  have b3_6 : w6.cell? _ = _ := (HB6.out.cell (World.block_lt_of_cell? w _ HY.out.2.2.2)).trans HY.out.2.2.2
  have g0 := blk_lt HBP6.out
  have g1 := blk_lt HBX6.out
  go_wp2_with fail
  refine bodyPost_ret (results_list (rs := [.tmp 6, .cell 7 27, .tmp 8]) rfl (by simp) (.tmp (.cell (w.heap.size + 1) 27 _ (0, 0) _ rfl (setXa HBX6.out _ _ _ _ _) Try.underlying27 rfl (by kernel_rfl) (.tmp .nil)))) rfl ?_
  refine ⟨_, rfl, Kd.V_mono (Kd.V_below HV.out ?_) (fun _ hk => .inl hk), ?_⟩
  all_goals repeat (first | exact HB6.out | refine below_alloc ?_ _ | refine Below.drew ?_ | refine Below.setCell ?_ (Nat.le_succ _) _)

set_option maxHeartbeats 8000000 in
set_option maxRecDepth 100000 in
theorem begin_most_A (P0 : Nat → Prop) (A : Option Addr) (c : Nat) (l : List S27) (p : ByteArray) (d : Int) (j : Nat) (w : World) (hv : Kd.V k27 27 w w.heap.size P0 (.slice A l.length c) l) (hr : Kd.C k27 w A l.length l) (hc : l.length ≤ c)
    (h1 : mounts_Right.f (l.length + 10) l = some true) (h2 : path_Right.f p = some true) (h3 : mounts_group.f d = some true) (h32 : l.length ≤ 32) (hall : l.all (inOk p) = true) (hof : mounts_Of.f (kOf l) l p = some (j : Int)) (hj : j < l.length) (ho : own_ p l = false) (hbu : l.any (busyB p) = false) (hz : ((rd_T27 l (j : Nat)).f1 == d) = false ∧ ((rd_T27 l (j : Nat)).f2 == 281474976710656) = true) (hlen : ((l.length : Int) == 32) = false) :
    Calls Try.prog 12 #[.slice A l.length c, .string p, .int .i64 d] w (Post w P0 l ⟨#[]⟩ 0 0 0 2) := by
  have HR := Lib.hid (fun W (hW : Below w.heap.size w W) => mounts_Right.calls (l.length + 10) A c l true W (Kd.C_below hr hW) hc h1)
  have HP := Lib.hid (fun W => path_Right.calls p true W h2)
  have HG := Lib.hid (fun W => (mounts_group.calls d true W h3).mono (fun e w' (h : _ ∧ _) => And.intro h.1 h.2.below))
  have HF := Lib.hid (fun W (hW : Below w.heap.size w W) => find_calls A c l p W (Kd.C_below hr hW) (by omega))
  have HBU := Lib.hid (fun W g (hg : W.heap[g]? = some (.cells #[.string p] 9 (0, 0))) (hW : Below w.heap.size w W) => IMount.contains_calls 28 #[.pointer (some ⟨g, 0, none⟩)] (enters_of Try.func28 (by kernel_rfl) rfl) (busyB p) A c l W (busy_pred p g l W hall hg) (Kd.C_below hr hW) (by omega))
  have HOF := Lib.hid (fun W (hW : Below w.heap.size w W) => mounts_Of.calls (kOf l) A c l p (j : Int) W (Kd.C_below hr hW) hc hof)
  obtain ⟨ad, ea, hy0, hy1, hy2, hy3⟩ := at_T27 hr (j : Nat) (by omega) (by omega)
  simp only [Int.toNat_natCast] at hy0 hy1 hy2 hy3
  have HV := Lib.hid hv
  rw [ho] at HF
  rw [hbu] at HBU
  have HLE := Lib.hid (at_le p l)
  obtain ⟨i, hi⟩ : ∃ i, at_ p l = i := ⟨_, rfl⟩
  rw [hi] at HF HLE 
  (try rw [hi])
  obtain ⟨y, hyy⟩ : ∃ y, rd_T27 l (j : Nat) = y := ⟨_, rfl⟩
  rw [hyy] at hy0 hy1 hy2 hy3 hz
  (try rw [hyy])
  have HY := Lib.hid (And.intro hy0 (And.intro hy1 (And.intro hy2 hy3)))
  obtain ⟨n, hn⟩ : ∃ n, l.length = n := ⟨_, rfl⟩
  have HN := Lib.hid hn
  rw [hn] at HR HF HBU HOF HV hj h32 hlen ⊢
  have hjz : (j : Int) < (n : Int) := by omega
  clear hr hc h1 h2 h3 ho hv hy0 hy1 hy2 hy3 hi hyy hof hall hbu 
  cases ea
  
  
  obtain ⟨hz1, hz2⟩ := hz
  go_enter Try.func12, Try.ntmps12
  go_wp2_with fail
  refine (HR.out _ (by repeat (first | exact Below.refl _ _ | apply below_alloc))).mono ?_
  rintro e w1 ⟨rfl, hb1⟩
  obtain ⟨hB, hP, hX⟩ := start1 hb1
  have HB1 := Lib.hid hB
  have HBP1 : Hid (w1.heap[w.heap.size]? = some (boxP p)) := hP
  have HBX1 : Hid (w1.heap[w.heap.size + 1]? = some zeroM) := hX
  clear hb1 hB hP hX
  have cp1 : w1.cell? ⟨w.heap.size, 0, none⟩ = some (.string p) := blk_cell HBP1.out 0
  have x0_1 : w1.cell? ⟨w.heap.size + 1, 0, none⟩ = some (.string ⟨#[]⟩) := blk_cell HBX1.out 0
  have f0_1 := blk_frozen HBX1.out 0
  have x1_1 : w1.cell? ⟨w.heap.size + 1, 1, none⟩ = some (.int .i64 0) := blk_cell HBX1.out 1
  have f1_1 := blk_frozen HBX1.out 1
  have x2_1 : w1.cell? ⟨w.heap.size + 1, 2, none⟩ = some (.int .i64 0) := blk_cell HBX1.out 2
  have f2_1 := blk_frozen HBX1.out 2
  have x3_1 : w1.cell? ⟨w.heap.size + 1, 3, none⟩ = some (.int .i64 0) := blk_cell HBX1.out 3
  have f3_1 := blk_frozen HBX1.out 3
  have b0_1 : w1.cell? _ = _ := (HB1.out.cell (World.block_lt_of_cell? w _ HY.out.1)).trans HY.out.1
  have b1_1 : w1.cell? _ = _ := (HB1.out.cell (World.block_lt_of_cell? w _ HY.out.2.1)).trans HY.out.2.1
  have b2_1 : w1.cell? _ = _ := (HB1.out.cell (World.block_lt_of_cell? w _ HY.out.2.2.1)).trans HY.out.2.2.1
  have b3_1 : w1.cell? _ = _ := (HB1.out.cell (World.block_lt_of_cell? w _ HY.out.2.2.2)).trans HY.out.2.2.2
  go_wp2_with fail
  refine (HP.out _).mono ?_
  rintro e w2 ⟨rfl, hb⟩
  clear cp1 x0_1 f0_1 x1_1 f1_1 x2_1 f2_1 x3_1 f3_1 b0_1 b1_1 b2_1 b3_1
  have HB2 : Hid (Below w.heap.size w w2) := below_step HB1.out hb
  have HBP2 : Hid (w2.heap[w.heap.size]? = some (boxP p)) := stepH HBP1.out hb
  have HBX2 : Hid (w2.heap[w.heap.size + 1]? = some zeroM) := stepH HBX1.out hb
  clear hb HB1 HBP1 HBX1
  have cp2 : w2.cell? ⟨w.heap.size, 0, none⟩ = some (.string p) := blk_cell HBP2.out 0
  have x0_2 : w2.cell? ⟨w.heap.size + 1, 0, none⟩ = some (.string ⟨#[]⟩) := blk_cell HBX2.out 0
  have f0_2 := blk_frozen HBX2.out 0
  have x1_2 : w2.cell? ⟨w.heap.size + 1, 1, none⟩ = some (.int .i64 0) := blk_cell HBX2.out 1
  have f1_2 := blk_frozen HBX2.out 1
  have x2_2 : w2.cell? ⟨w.heap.size + 1, 2, none⟩ = some (.int .i64 0) := blk_cell HBX2.out 2
  have f2_2 := blk_frozen HBX2.out 2
  have x3_2 : w2.cell? ⟨w.heap.size + 1, 3, none⟩ = some (.int .i64 0) := blk_cell HBX2.out 3
  have f3_2 := blk_frozen HBX2.out 3
  have b0_2 : w2.cell? _ = _ := (HB2.out.cell (World.block_lt_of_cell? w _ HY.out.1)).trans HY.out.1
  have b1_2 : w2.cell? _ = _ := (HB2.out.cell (World.block_lt_of_cell? w _ HY.out.2.1)).trans HY.out.2.1
  have b2_2 : w2.cell? _ = _ := (HB2.out.cell (World.block_lt_of_cell? w _ HY.out.2.2.1)).trans HY.out.2.2.1
  have b3_2 : w2.cell? _ = _ := (HB2.out.cell (World.block_lt_of_cell? w _ HY.out.2.2.2)).trans HY.out.2.2.2
  go_wp2_with fail
  refine (HG.out _).mono ?_
  rintro e w3 ⟨rfl, hb⟩
  clear cp2 x0_2 f0_2 x1_2 f1_2 x2_2 f2_2 x3_2 f3_2 b0_2 b1_2 b2_2 b3_2
  have HB3 : Hid (Below w.heap.size w w3) := below_step HB2.out hb
  have HBP3 : Hid (w3.heap[w.heap.size]? = some (boxP p)) := stepH HBP2.out hb
  have HBX3 : Hid (w3.heap[w.heap.size + 1]? = some zeroM) := stepH HBX2.out hb
  clear hb HB2 HBP2 HBX2
  have cp3 : w3.cell? ⟨w.heap.size, 0, none⟩ = some (.string p) := blk_cell HBP3.out 0
  have x0_3 : w3.cell? ⟨w.heap.size + 1, 0, none⟩ = some (.string ⟨#[]⟩) := blk_cell HBX3.out 0
  have f0_3 := blk_frozen HBX3.out 0
  have x1_3 : w3.cell? ⟨w.heap.size + 1, 1, none⟩ = some (.int .i64 0) := blk_cell HBX3.out 1
  have f1_3 := blk_frozen HBX3.out 1
  have x2_3 : w3.cell? ⟨w.heap.size + 1, 2, none⟩ = some (.int .i64 0) := blk_cell HBX3.out 2
  have f2_3 := blk_frozen HBX3.out 2
  have x3_3 : w3.cell? ⟨w.heap.size + 1, 3, none⟩ = some (.int .i64 0) := blk_cell HBX3.out 3
  have f3_3 := blk_frozen HBX3.out 3
  have b0_3 : w3.cell? _ = _ := (HB3.out.cell (World.block_lt_of_cell? w _ HY.out.1)).trans HY.out.1
  have b1_3 : w3.cell? _ = _ := (HB3.out.cell (World.block_lt_of_cell? w _ HY.out.2.1)).trans HY.out.2.1
  have b2_3 : w3.cell? _ = _ := (HB3.out.cell (World.block_lt_of_cell? w _ HY.out.2.2.1)).trans HY.out.2.2.1
  have b3_3 : w3.cell? _ = _ := (HB3.out.cell (World.block_lt_of_cell? w _ HY.out.2.2.2)).trans HY.out.2.2.2
  go_wp2_with fail
  refine (HF.out _ HB3.out).mono ?_
  rintro e w4 ⟨rfl, hb⟩
  clear cp3 x0_3 f0_3 x1_3 f1_3 x2_3 f2_3 x3_3 f3_3 b0_3 b1_3 b2_3 b3_3
  have HB4 : Hid (Below w.heap.size w w4) := below_step HB3.out hb
  have HBP4 : Hid (w4.heap[w.heap.size]? = some (boxP p)) := stepH HBP3.out hb
  have HBX4 : Hid (w4.heap[w.heap.size + 1]? = some zeroM) := stepH HBX3.out hb
  clear hb HB3 HBP3 HBX3
  have cp4 : w4.cell? ⟨w.heap.size, 0, none⟩ = some (.string p) := blk_cell HBP4.out 0
  have x0_4 : w4.cell? ⟨w.heap.size + 1, 0, none⟩ = some (.string ⟨#[]⟩) := blk_cell HBX4.out 0
  have f0_4 := blk_frozen HBX4.out 0
  have x1_4 : w4.cell? ⟨w.heap.size + 1, 1, none⟩ = some (.int .i64 0) := blk_cell HBX4.out 1
  have f1_4 := blk_frozen HBX4.out 1
  have x2_4 : w4.cell? ⟨w.heap.size + 1, 2, none⟩ = some (.int .i64 0) := blk_cell HBX4.out 2
  have f2_4 := blk_frozen HBX4.out 2
  have x3_4 : w4.cell? ⟨w.heap.size + 1, 3, none⟩ = some (.int .i64 0) := blk_cell HBX4.out 3
  have f3_4 := blk_frozen HBX4.out 3
  have b0_4 : w4.cell? _ = _ := (HB4.out.cell (World.block_lt_of_cell? w _ HY.out.1)).trans HY.out.1
  have b1_4 : w4.cell? _ = _ := (HB4.out.cell (World.block_lt_of_cell? w _ HY.out.2.1)).trans HY.out.2.1
  have b2_4 : w4.cell? _ = _ := (HB4.out.cell (World.block_lt_of_cell? w _ HY.out.2.2.1)).trans HY.out.2.2.1
  have b3_4 : w4.cell? _ = _ := (HB4.out.cell (World.block_lt_of_cell? w _ HY.out.2.2.2)).trans HY.out.2.2.2
  go_wp2_with fail
  refine (HBU.out _ _ HBP4.out HB4.out).mono ?_
  rintro e w5 ⟨rfl, hb⟩
  clear cp4 x0_4 f0_4 x1_4 f1_4 x2_4 f2_4 x3_4 f3_4 b0_4 b1_4 b2_4 b3_4
  have HB5 : Hid (Below w.heap.size w w5) := below_step HB4.out hb
  have HBP5 : Hid (w5.heap[w.heap.size]? = some (boxP p)) := stepH HBP4.out hb
  have HBX5 : Hid (w5.heap[w.heap.size + 1]? = some zeroM) := stepH HBX4.out hb
  clear hb HB4 HBP4 HBX4
  have cp5 : w5.cell? ⟨w.heap.size, 0, none⟩ = some (.string p) := blk_cell HBP5.out 0
  have x0_5 : w5.cell? ⟨w.heap.size + 1, 0, none⟩ = some (.string ⟨#[]⟩) := blk_cell HBX5.out 0
  have f0_5 := blk_frozen HBX5.out 0
  have x1_5 : w5.cell? ⟨w.heap.size + 1, 1, none⟩ = some (.int .i64 0) := blk_cell HBX5.out 1
  have f1_5 := blk_frozen HBX5.out 1
  have x2_5 : w5.cell? ⟨w.heap.size + 1, 2, none⟩ = some (.int .i64 0) := blk_cell HBX5.out 2
  have f2_5 := blk_frozen HBX5.out 2
  have x3_5 : w5.cell? ⟨w.heap.size + 1, 3, none⟩ = some (.int .i64 0) := blk_cell HBX5.out 3
  have f3_5 := blk_frozen HBX5.out 3
  have b0_5 : w5.cell? _ = _ := (HB5.out.cell (World.block_lt_of_cell? w _ HY.out.1)).trans HY.out.1
  have b1_5 : w5.cell? _ = _ := (HB5.out.cell (World.block_lt_of_cell? w _ HY.out.2.1)).trans HY.out.2.1
  have b2_5 : w5.cell? _ = _ := (HB5.out.cell (World.block_lt_of_cell? w _ HY.out.2.2.1)).trans HY.out.2.2.1
  have b3_5 : w5.cell? _ = _ := (HB5.out.cell (World.block_lt_of_cell? w _ HY.out.2.2.2)).trans HY.out.2.2.2
  go_wp2_with fail
  refine (HOF.out _ HB5.out).mono ?_
  rintro e w6 ⟨rfl, hb⟩
  clear cp5 x0_5 f0_5 x1_5 f1_5 x2_5 f2_5 x3_5 f3_5 b0_5 b1_5 b2_5 b3_5
  have HB6 : Hid (Below w.heap.size w w6) := below_step HB5.out hb
  have HBP6 : Hid (w6.heap[w.heap.size]? = some (boxP p)) := stepH HBP5.out hb
  have HBX6 : Hid (w6.heap[w.heap.size + 1]? = some zeroM) := stepH HBX5.out hb
  clear hb HB5 HBP5 HBX5
  have cp6 : w6.cell? ⟨w.heap.size, 0, none⟩ = some (.string p) := blk_cell HBP6.out 0
  have x0_6 : w6.cell? ⟨w.heap.size + 1, 0, none⟩ = some (.string ⟨#[]⟩) := blk_cell HBX6.out 0
  have f0_6 := blk_frozen HBX6.out 0
  have x1_6 : w6.cell? ⟨w.heap.size + 1, 1, none⟩ = some (.int .i64 0) := blk_cell HBX6.out 1
  have f1_6 := blk_frozen HBX6.out 1
  have x2_6 : w6.cell? ⟨w.heap.size + 1, 2, none⟩ = some (.int .i64 0) := blk_cell HBX6.out 2
  have f2_6 := blk_frozen HBX6.out 2
  have x3_6 : w6.cell? ⟨w.heap.size + 1, 3, none⟩ = some (.int .i64 0) := blk_cell HBX6.out 3
  have f3_6 := blk_frozen HBX6.out 3
  have b0_6 : w6.cell? _ = _ := (HB6.out.cell (World.block_lt_of_cell? w _ HY.out.1)).trans HY.out.1
  have b1_6 : w6.cell? _ = _ := (HB6.out.cell (World.block_lt_of_cell? w _ HY.out.2.1)).trans HY.out.2.1
  have b2_6 : w6.cell? _ = _ := (HB6.out.cell (World.block_lt_of_cell? w _ HY.out.2.2.1)).trans HY.out.2.2.1
  have b3_6 : w6.cell? _ = _ := (HB6.out.cell (World.block_lt_of_cell? w _ HY.out.2.2.2)).trans HY.out.2.2.2
  have g0 := blk_lt HBP6.out
  have g1 := blk_lt HBX6.out
  go_wp2_with fail
  refine bodyPost_ret (results_list (rs := [.tmp 6, .cell 7 27, .tmp 8]) rfl (by simp) (.tmp (.cell (w.heap.size + 1) 27 _ (0, 0) _ rfl (setXa HBX6.out _ _ _ _ _) Try.underlying27 rfl (by kernel_rfl) (.tmp .nil)))) rfl ?_
  refine ⟨_, rfl, Kd.V_mono (Kd.V_below HV.out ?_) (fun _ hk => .inl hk), ?_⟩
  all_goals repeat (first | exact HB6.out | refine below_alloc ?_ _ | refine Below.drew ?_ | refine Below.setCell ?_ (Nat.le_succ _) _)

set_option maxHeartbeats 8000000 in
set_option maxRecDepth 100000 in
theorem begin_busy_B (P0 : Nat → Prop) (A : Option Addr) (c : Nat) (l : List S27) (p : ByteArray) (d : Int) (j : Nat) (w : World) (hv : Kd.V k27 27 w w.heap.size P0 (.slice A l.length c) l) (hr : Kd.C k27 w A l.length l) (hc : l.length ≤ c)
    (h1 : mounts_Right.f (l.length + 10) l = some true) (h2 : path_Right.f p = some true) (h3 : mounts_group.f d = some true) (h32 : l.length ≤ 32) (hall : l.all (inOk p) = true) (hof : mounts_Of.f (kOf l) l p = some (j : Int)) (hj : j < l.length) (ho : own_ p l = true) (hm : movB (rd_T27 l (at_ p l : Nat)) = false) (hbu : l.any (busyB p) = true)  :
    Calls Try.prog 12 #[.slice A l.length c, .string p, .int .i64 d] w (Post w P0 l ⟨#[]⟩ 0 0 0 131) := by
  have HR := Lib.hid (fun W (hW : Below w.heap.size w W) => mounts_Right.calls (l.length + 10) A c l true W (Kd.C_below hr hW) hc h1)
  have HP := Lib.hid (fun W => path_Right.calls p true W h2)
  have HG := Lib.hid (fun W => (mounts_group.calls d true W h3).mono (fun e w' (h : _ ∧ _) => And.intro h.1 h.2.below))
  have HF := Lib.hid (fun W (hW : Below w.heap.size w W) => find_calls A c l p W (Kd.C_below hr hW) (by omega))
  have HBU := Lib.hid (fun W g (hg : W.heap[g]? = some (.cells #[.string p] 9 (0, 0))) (hW : Below w.heap.size w W) => IMount.contains_calls 28 #[.pointer (some ⟨g, 0, none⟩)] (enters_of Try.func28 (by kernel_rfl) rfl) (busyB p) A c l W (busy_pred p g l W hall hg) (Kd.C_below hr hW) (by omega))
  have HOF := Lib.hid (fun W (hW : Below w.heap.size w W) => mounts_Of.calls (kOf l) A c l p (j : Int) W (Kd.C_below hr hW) hc hof)
  obtain ⟨ad, ea, hy0, hy1, hy2, hy3⟩ := at_T27 hr (j : Nat) (by omega) (by omega)
  simp only [Int.toNat_natCast] at hy0 hy1 hy2 hy3
  have HV := Lib.hid hv
  rw [ho] at HF
  rw [hbu] at HBU
  have hlt : at_ p l < l.length := by
    have : (decide (at_ p l < l.length) && decide (cmpP p (rd_T27 l (at_ p l : Nat)) = 0)) = true := ho
    simp at this
    exact this.1
  obtain ⟨ad2, ea2, hx0, hx1, hx2, hx3⟩ := at_T27 hr (at_ p l : Nat) (by omega) (by omega)
  simp only [Int.toNat_natCast] at hx0 hx1 hx2 hx3
  obtain rfl : ad = ad2 := Option.some.inj (ea.symm.trans ea2)
  have HLE := Lib.hid (at_le p l)
  obtain ⟨i, hi⟩ : ∃ i, at_ p l = i := ⟨_, rfl⟩
  rw [hi] at HF HLE hx0 hx1 hx2 hx3 hlt hm
  (try rw [hi])
  obtain ⟨x, hxx⟩ : ∃ x, rd_T27 l (i : Nat) = x := ⟨_, rfl⟩
  rw [hxx] at hx0 hx1 hx2 hx3 hm
  have HX := Lib.hid (And.intro hx0 (And.intro hx1 (And.intro hx2 hx3)))
  obtain ⟨mv, hmv⟩ : ∃ mv, movB x = mv := ⟨_, rfl⟩
  have HM := Lib.hid (fun W => moves_is x mv hmv W)
  rw [hmv] at hm
  obtain ⟨y, hyy⟩ : ∃ y, rd_T27 l (j : Nat) = y := ⟨_, rfl⟩
  rw [hyy] at hy0 hy1 hy2 hy3
  (try rw [hyy])
  have HY := Lib.hid (And.intro hy0 (And.intro hy1 (And.intro hy2 hy3)))
  obtain ⟨n, hn⟩ : ∃ n, l.length = n := ⟨_, rfl⟩
  have HN := Lib.hid hn
  rw [hn] at HR HF HBU HOF HV hj h32 hlt ⊢
  have hjz : (j : Int) < (n : Int) := by omega
  clear hr hc h1 h2 h3 ho hv hy0 hy1 hy2 hy3 hi hyy hof hall hbu hx0 hx1 hx2 hx3 hxx hmv ea2
  cases ea
  
  have hlz : (i : Int) < (n : Int) := by omega
  
  subst hm
  go_enter Try.func12, Try.ntmps12
  go_wp2_with fail
  refine (HR.out _ (by repeat (first | exact Below.refl _ _ | apply below_alloc))).mono ?_
  rintro e w1 ⟨rfl, hb1⟩
  obtain ⟨hB, hP, hX⟩ := start1 hb1
  have HB1 := Lib.hid hB
  have HBP1 : Hid (w1.heap[w.heap.size]? = some (boxP p)) := hP
  have HBX1 : Hid (w1.heap[w.heap.size + 1]? = some zeroM) := hX
  clear hb1 hB hP hX
  have cp1 : w1.cell? ⟨w.heap.size, 0, none⟩ = some (.string p) := blk_cell HBP1.out 0
  have x0_1 : w1.cell? ⟨w.heap.size + 1, 0, none⟩ = some (.string ⟨#[]⟩) := blk_cell HBX1.out 0
  have f0_1 := blk_frozen HBX1.out 0
  have x1_1 : w1.cell? ⟨w.heap.size + 1, 1, none⟩ = some (.int .i64 0) := blk_cell HBX1.out 1
  have f1_1 := blk_frozen HBX1.out 1
  have x2_1 : w1.cell? ⟨w.heap.size + 1, 2, none⟩ = some (.int .i64 0) := blk_cell HBX1.out 2
  have f2_1 := blk_frozen HBX1.out 2
  have x3_1 : w1.cell? ⟨w.heap.size + 1, 3, none⟩ = some (.int .i64 0) := blk_cell HBX1.out 3
  have f3_1 := blk_frozen HBX1.out 3
  have a0_1 : w1.cell? _ = _ := (HB1.out.cell (World.block_lt_of_cell? w _ HX.out.1)).trans HX.out.1
  have a1_1 : w1.cell? _ = _ := (HB1.out.cell (World.block_lt_of_cell? w _ HX.out.2.1)).trans HX.out.2.1
  have a2_1 : w1.cell? _ = _ := (HB1.out.cell (World.block_lt_of_cell? w _ HX.out.2.2.1)).trans HX.out.2.2.1
  have a3_1 : w1.cell? _ = _ := (HB1.out.cell (World.block_lt_of_cell? w _ HX.out.2.2.2)).trans HX.out.2.2.2
  have b0_1 : w1.cell? _ = _ := (HB1.out.cell (World.block_lt_of_cell? w _ HY.out.1)).trans HY.out.1
  have b1_1 : w1.cell? _ = _ := (HB1.out.cell (World.block_lt_of_cell? w _ HY.out.2.1)).trans HY.out.2.1
  have b2_1 : w1.cell? _ = _ := (HB1.out.cell (World.block_lt_of_cell? w _ HY.out.2.2.1)).trans HY.out.2.2.1
  have b3_1 : w1.cell? _ = _ := (HB1.out.cell (World.block_lt_of_cell? w _ HY.out.2.2.2)).trans HY.out.2.2.2
  go_wp2_with fail
  refine (HP.out _).mono ?_
  rintro e w2 ⟨rfl, hb⟩
  clear cp1 x0_1 f0_1 x1_1 f1_1 x2_1 f2_1 x3_1 f3_1 a0_1 a1_1 a2_1 a3_1 b0_1 b1_1 b2_1 b3_1
  have HB2 : Hid (Below w.heap.size w w2) := below_step HB1.out hb
  have HBP2 : Hid (w2.heap[w.heap.size]? = some (boxP p)) := stepH HBP1.out hb
  have HBX2 : Hid (w2.heap[w.heap.size + 1]? = some zeroM) := stepH HBX1.out hb
  clear hb HB1 HBP1 HBX1
  have cp2 : w2.cell? ⟨w.heap.size, 0, none⟩ = some (.string p) := blk_cell HBP2.out 0
  have x0_2 : w2.cell? ⟨w.heap.size + 1, 0, none⟩ = some (.string ⟨#[]⟩) := blk_cell HBX2.out 0
  have f0_2 := blk_frozen HBX2.out 0
  have x1_2 : w2.cell? ⟨w.heap.size + 1, 1, none⟩ = some (.int .i64 0) := blk_cell HBX2.out 1
  have f1_2 := blk_frozen HBX2.out 1
  have x2_2 : w2.cell? ⟨w.heap.size + 1, 2, none⟩ = some (.int .i64 0) := blk_cell HBX2.out 2
  have f2_2 := blk_frozen HBX2.out 2
  have x3_2 : w2.cell? ⟨w.heap.size + 1, 3, none⟩ = some (.int .i64 0) := blk_cell HBX2.out 3
  have f3_2 := blk_frozen HBX2.out 3
  have a0_2 : w2.cell? _ = _ := (HB2.out.cell (World.block_lt_of_cell? w _ HX.out.1)).trans HX.out.1
  have a1_2 : w2.cell? _ = _ := (HB2.out.cell (World.block_lt_of_cell? w _ HX.out.2.1)).trans HX.out.2.1
  have a2_2 : w2.cell? _ = _ := (HB2.out.cell (World.block_lt_of_cell? w _ HX.out.2.2.1)).trans HX.out.2.2.1
  have a3_2 : w2.cell? _ = _ := (HB2.out.cell (World.block_lt_of_cell? w _ HX.out.2.2.2)).trans HX.out.2.2.2
  have b0_2 : w2.cell? _ = _ := (HB2.out.cell (World.block_lt_of_cell? w _ HY.out.1)).trans HY.out.1
  have b1_2 : w2.cell? _ = _ := (HB2.out.cell (World.block_lt_of_cell? w _ HY.out.2.1)).trans HY.out.2.1
  have b2_2 : w2.cell? _ = _ := (HB2.out.cell (World.block_lt_of_cell? w _ HY.out.2.2.1)).trans HY.out.2.2.1
  have b3_2 : w2.cell? _ = _ := (HB2.out.cell (World.block_lt_of_cell? w _ HY.out.2.2.2)).trans HY.out.2.2.2
  go_wp2_with fail
  refine (HG.out _).mono ?_
  rintro e w3 ⟨rfl, hb⟩
  clear cp2 x0_2 f0_2 x1_2 f1_2 x2_2 f2_2 x3_2 f3_2 a0_2 a1_2 a2_2 a3_2 b0_2 b1_2 b2_2 b3_2
  have HB3 : Hid (Below w.heap.size w w3) := below_step HB2.out hb
  have HBP3 : Hid (w3.heap[w.heap.size]? = some (boxP p)) := stepH HBP2.out hb
  have HBX3 : Hid (w3.heap[w.heap.size + 1]? = some zeroM) := stepH HBX2.out hb
  clear hb HB2 HBP2 HBX2
  have cp3 : w3.cell? ⟨w.heap.size, 0, none⟩ = some (.string p) := blk_cell HBP3.out 0
  have x0_3 : w3.cell? ⟨w.heap.size + 1, 0, none⟩ = some (.string ⟨#[]⟩) := blk_cell HBX3.out 0
  have f0_3 := blk_frozen HBX3.out 0
  have x1_3 : w3.cell? ⟨w.heap.size + 1, 1, none⟩ = some (.int .i64 0) := blk_cell HBX3.out 1
  have f1_3 := blk_frozen HBX3.out 1
  have x2_3 : w3.cell? ⟨w.heap.size + 1, 2, none⟩ = some (.int .i64 0) := blk_cell HBX3.out 2
  have f2_3 := blk_frozen HBX3.out 2
  have x3_3 : w3.cell? ⟨w.heap.size + 1, 3, none⟩ = some (.int .i64 0) := blk_cell HBX3.out 3
  have f3_3 := blk_frozen HBX3.out 3
  have a0_3 : w3.cell? _ = _ := (HB3.out.cell (World.block_lt_of_cell? w _ HX.out.1)).trans HX.out.1
  have a1_3 : w3.cell? _ = _ := (HB3.out.cell (World.block_lt_of_cell? w _ HX.out.2.1)).trans HX.out.2.1
  have a2_3 : w3.cell? _ = _ := (HB3.out.cell (World.block_lt_of_cell? w _ HX.out.2.2.1)).trans HX.out.2.2.1
  have a3_3 : w3.cell? _ = _ := (HB3.out.cell (World.block_lt_of_cell? w _ HX.out.2.2.2)).trans HX.out.2.2.2
  have b0_3 : w3.cell? _ = _ := (HB3.out.cell (World.block_lt_of_cell? w _ HY.out.1)).trans HY.out.1
  have b1_3 : w3.cell? _ = _ := (HB3.out.cell (World.block_lt_of_cell? w _ HY.out.2.1)).trans HY.out.2.1
  have b2_3 : w3.cell? _ = _ := (HB3.out.cell (World.block_lt_of_cell? w _ HY.out.2.2.1)).trans HY.out.2.2.1
  have b3_3 : w3.cell? _ = _ := (HB3.out.cell (World.block_lt_of_cell? w _ HY.out.2.2.2)).trans HY.out.2.2.2
  go_wp2_with fail
  refine (HF.out _ HB3.out).mono ?_
  rintro e w4 ⟨rfl, hb⟩
  clear cp3 x0_3 f0_3 x1_3 f1_3 x2_3 f2_3 x3_3 f3_3 a0_3 a1_3 a2_3 a3_3 b0_3 b1_3 b2_3 b3_3
  have HB4 : Hid (Below w.heap.size w w4) := below_step HB3.out hb
  have HBP4 : Hid (w4.heap[w.heap.size]? = some (boxP p)) := stepH HBP3.out hb
  have HBX4 : Hid (w4.heap[w.heap.size + 1]? = some zeroM) := stepH HBX3.out hb
  clear hb HB3 HBP3 HBX3
  have cp4 : w4.cell? ⟨w.heap.size, 0, none⟩ = some (.string p) := blk_cell HBP4.out 0
  have x0_4 : w4.cell? ⟨w.heap.size + 1, 0, none⟩ = some (.string ⟨#[]⟩) := blk_cell HBX4.out 0
  have f0_4 := blk_frozen HBX4.out 0
  have x1_4 : w4.cell? ⟨w.heap.size + 1, 1, none⟩ = some (.int .i64 0) := blk_cell HBX4.out 1
  have f1_4 := blk_frozen HBX4.out 1
  have x2_4 : w4.cell? ⟨w.heap.size + 1, 2, none⟩ = some (.int .i64 0) := blk_cell HBX4.out 2
  have f2_4 := blk_frozen HBX4.out 2
  have x3_4 : w4.cell? ⟨w.heap.size + 1, 3, none⟩ = some (.int .i64 0) := blk_cell HBX4.out 3
  have f3_4 := blk_frozen HBX4.out 3
  have a0_4 : w4.cell? _ = _ := (HB4.out.cell (World.block_lt_of_cell? w _ HX.out.1)).trans HX.out.1
  have a1_4 : w4.cell? _ = _ := (HB4.out.cell (World.block_lt_of_cell? w _ HX.out.2.1)).trans HX.out.2.1
  have a2_4 : w4.cell? _ = _ := (HB4.out.cell (World.block_lt_of_cell? w _ HX.out.2.2.1)).trans HX.out.2.2.1
  have a3_4 : w4.cell? _ = _ := (HB4.out.cell (World.block_lt_of_cell? w _ HX.out.2.2.2)).trans HX.out.2.2.2
  have b0_4 : w4.cell? _ = _ := (HB4.out.cell (World.block_lt_of_cell? w _ HY.out.1)).trans HY.out.1
  have b1_4 : w4.cell? _ = _ := (HB4.out.cell (World.block_lt_of_cell? w _ HY.out.2.1)).trans HY.out.2.1
  have b2_4 : w4.cell? _ = _ := (HB4.out.cell (World.block_lt_of_cell? w _ HY.out.2.2.1)).trans HY.out.2.2.1
  have b3_4 : w4.cell? _ = _ := (HB4.out.cell (World.block_lt_of_cell? w _ HY.out.2.2.2)).trans HY.out.2.2.2
  go_wp2_with fail
  refine (HM.out _).mono ?_
  rintro e w5 ⟨rfl, hb⟩
  clear cp4 x0_4 f0_4 x1_4 f1_4 x2_4 f2_4 x3_4 f3_4 a0_4 a1_4 a2_4 a3_4 b0_4 b1_4 b2_4 b3_4
  have HB5 : Hid (Below w.heap.size w w5) := below_step HB4.out hb
  have HBP5 : Hid (w5.heap[w.heap.size]? = some (boxP p)) := stepH HBP4.out hb
  have HBX5 : Hid (w5.heap[w.heap.size + 1]? = some zeroM) := stepH HBX4.out hb
  clear hb HB4 HBP4 HBX4
  have cp5 : w5.cell? ⟨w.heap.size, 0, none⟩ = some (.string p) := blk_cell HBP5.out 0
  have x0_5 : w5.cell? ⟨w.heap.size + 1, 0, none⟩ = some (.string ⟨#[]⟩) := blk_cell HBX5.out 0
  have f0_5 := blk_frozen HBX5.out 0
  have x1_5 : w5.cell? ⟨w.heap.size + 1, 1, none⟩ = some (.int .i64 0) := blk_cell HBX5.out 1
  have f1_5 := blk_frozen HBX5.out 1
  have x2_5 : w5.cell? ⟨w.heap.size + 1, 2, none⟩ = some (.int .i64 0) := blk_cell HBX5.out 2
  have f2_5 := blk_frozen HBX5.out 2
  have x3_5 : w5.cell? ⟨w.heap.size + 1, 3, none⟩ = some (.int .i64 0) := blk_cell HBX5.out 3
  have f3_5 := blk_frozen HBX5.out 3
  have a0_5 : w5.cell? _ = _ := (HB5.out.cell (World.block_lt_of_cell? w _ HX.out.1)).trans HX.out.1
  have a1_5 : w5.cell? _ = _ := (HB5.out.cell (World.block_lt_of_cell? w _ HX.out.2.1)).trans HX.out.2.1
  have a2_5 : w5.cell? _ = _ := (HB5.out.cell (World.block_lt_of_cell? w _ HX.out.2.2.1)).trans HX.out.2.2.1
  have a3_5 : w5.cell? _ = _ := (HB5.out.cell (World.block_lt_of_cell? w _ HX.out.2.2.2)).trans HX.out.2.2.2
  have b0_5 : w5.cell? _ = _ := (HB5.out.cell (World.block_lt_of_cell? w _ HY.out.1)).trans HY.out.1
  have b1_5 : w5.cell? _ = _ := (HB5.out.cell (World.block_lt_of_cell? w _ HY.out.2.1)).trans HY.out.2.1
  have b2_5 : w5.cell? _ = _ := (HB5.out.cell (World.block_lt_of_cell? w _ HY.out.2.2.1)).trans HY.out.2.2.1
  have b3_5 : w5.cell? _ = _ := (HB5.out.cell (World.block_lt_of_cell? w _ HY.out.2.2.2)).trans HY.out.2.2.2
  go_wp2_with fail
  refine (HBU.out _ _ HBP5.out HB5.out).mono ?_
  rintro e w6 ⟨rfl, hb⟩
  clear cp5 x0_5 f0_5 x1_5 f1_5 x2_5 f2_5 x3_5 f3_5 a0_5 a1_5 a2_5 a3_5 b0_5 b1_5 b2_5 b3_5
  have HB6 : Hid (Below w.heap.size w w6) := below_step HB5.out hb
  have HBP6 : Hid (w6.heap[w.heap.size]? = some (boxP p)) := stepH HBP5.out hb
  have HBX6 : Hid (w6.heap[w.heap.size + 1]? = some zeroM) := stepH HBX5.out hb
  clear hb HB5 HBP5 HBX5
  have cp6 : w6.cell? ⟨w.heap.size, 0, none⟩ = some (.string p) := blk_cell HBP6.out 0
  have x0_6 : w6.cell? ⟨w.heap.size + 1, 0, none⟩ = some (.string ⟨#[]⟩) := blk_cell HBX6.out 0
  have f0_6 := blk_frozen HBX6.out 0
  have x1_6 : w6.cell? ⟨w.heap.size + 1, 1, none⟩ = some (.int .i64 0) := blk_cell HBX6.out 1
  have f1_6 := blk_frozen HBX6.out 1
  have x2_6 : w6.cell? ⟨w.heap.size + 1, 2, none⟩ = some (.int .i64 0) := blk_cell HBX6.out 2
  have f2_6 := blk_frozen HBX6.out 2
  have x3_6 : w6.cell? ⟨w.heap.size + 1, 3, none⟩ = some (.int .i64 0) := blk_cell HBX6.out 3
  have f3_6 := blk_frozen HBX6.out 3
  have a0_6 : w6.cell? _ = _ := (HB6.out.cell (World.block_lt_of_cell? w _ HX.out.1)).trans HX.out.1
  have a1_6 : w6.cell? _ = _ := (HB6.out.cell (World.block_lt_of_cell? w _ HX.out.2.1)).trans HX.out.2.1
  have a2_6 : w6.cell? _ = _ := (HB6.out.cell (World.block_lt_of_cell? w _ HX.out.2.2.1)).trans HX.out.2.2.1
  have a3_6 : w6.cell? _ = _ := (HB6.out.cell (World.block_lt_of_cell? w _ HX.out.2.2.2)).trans HX.out.2.2.2
  have b0_6 : w6.cell? _ = _ := (HB6.out.cell (World.block_lt_of_cell? w _ HY.out.1)).trans HY.out.1
  have b1_6 : w6.cell? _ = _ := (HB6.out.cell (World.block_lt_of_cell? w _ HY.out.2.1)).trans HY.out.2.1
  have b2_6 : w6.cell? _ = _ := (HB6.out.cell (World.block_lt_of_cell? w _ HY.out.2.2.1)).trans HY.out.2.2.1
  have b3_6 : w6.cell? _ = _ := (HB6.out.cell (World.block_lt_of_cell? w _ HY.out.2.2.2)).trans HY.out.2.2.2
  go_wp2_with fail
  refine (HOF.out _ HB6.out).mono ?_
  rintro e w7 ⟨rfl, hb⟩
  clear cp6 x0_6 f0_6 x1_6 f1_6 x2_6 f2_6 x3_6 f3_6 a0_6 a1_6 a2_6 a3_6 b0_6 b1_6 b2_6 b3_6
  have HB7 : Hid (Below w.heap.size w w7) := below_step HB6.out hb
  have HBP7 : Hid (w7.heap[w.heap.size]? = some (boxP p)) := stepH HBP6.out hb
  have HBX7 : Hid (w7.heap[w.heap.size + 1]? = some zeroM) := stepH HBX6.out hb
  clear hb HB6 HBP6 HBX6
  have cp7 : w7.cell? ⟨w.heap.size, 0, none⟩ = some (.string p) := blk_cell HBP7.out 0
  have x0_7 : w7.cell? ⟨w.heap.size + 1, 0, none⟩ = some (.string ⟨#[]⟩) := blk_cell HBX7.out 0
  have f0_7 := blk_frozen HBX7.out 0
  have x1_7 : w7.cell? ⟨w.heap.size + 1, 1, none⟩ = some (.int .i64 0) := blk_cell HBX7.out 1
  have f1_7 := blk_frozen HBX7.out 1
  have x2_7 : w7.cell? ⟨w.heap.size + 1, 2, none⟩ = some (.int .i64 0) := blk_cell HBX7.out 2
  have f2_7 := blk_frozen HBX7.out 2
  have x3_7 : w7.cell? ⟨w.heap.size + 1, 3, none⟩ = some (.int .i64 0) := blk_cell HBX7.out 3
  have f3_7 := blk_frozen HBX7.out 3
  have a0_7 : w7.cell? _ = _ := (HB7.out.cell (World.block_lt_of_cell? w _ HX.out.1)).trans HX.out.1
  have a1_7 : w7.cell? _ = _ := (HB7.out.cell (World.block_lt_of_cell? w _ HX.out.2.1)).trans HX.out.2.1
  have a2_7 : w7.cell? _ = _ := (HB7.out.cell (World.block_lt_of_cell? w _ HX.out.2.2.1)).trans HX.out.2.2.1
  have a3_7 : w7.cell? _ = _ := (HB7.out.cell (World.block_lt_of_cell? w _ HX.out.2.2.2)).trans HX.out.2.2.2
  have b0_7 : w7.cell? _ = _ := (HB7.out.cell (World.block_lt_of_cell? w _ HY.out.1)).trans HY.out.1
  have b1_7 : w7.cell? _ = _ := (HB7.out.cell (World.block_lt_of_cell? w _ HY.out.2.1)).trans HY.out.2.1
  have b2_7 : w7.cell? _ = _ := (HB7.out.cell (World.block_lt_of_cell? w _ HY.out.2.2.1)).trans HY.out.2.2.1
  have b3_7 : w7.cell? _ = _ := (HB7.out.cell (World.block_lt_of_cell? w _ HY.out.2.2.2)).trans HY.out.2.2.2
  have g0 := blk_lt HBP7.out
  have g1 := blk_lt HBX7.out
  go_wp2_with fail
  refine bodyPost_ret (results_list (rs := [.tmp 6, .cell 7 27, .tmp 8]) rfl (by simp) (.tmp (.cell (w.heap.size + 1) 27 _ (0, 0) _ rfl (setXa HBX7.out _ _ _ _ _) Try.underlying27 rfl (by kernel_rfl) (.tmp .nil)))) rfl ?_
  refine ⟨_, rfl, Kd.V_mono (Kd.V_below HV.out ?_) (fun _ hk => .inl hk), ?_⟩
  all_goals repeat (first | exact HB7.out | refine below_alloc ?_ _ | refine Below.drew ?_ | refine Below.setCell ?_ (Nat.le_succ _) _)

set_option maxHeartbeats 8000000 in
set_option maxRecDepth 100000 in
theorem begin_there_B (P0 : Nat → Prop) (A : Option Addr) (c : Nat) (l : List S27) (p : ByteArray) (d : Int) (j : Nat) (w : World) (hv : Kd.V k27 27 w w.heap.size P0 (.slice A l.length c) l) (hr : Kd.C k27 w A l.length l) (hc : l.length ≤ c)
    (h1 : mounts_Right.f (l.length + 10) l = some true) (h2 : path_Right.f p = some true) (h3 : mounts_group.f d = some true) (h32 : l.length ≤ 32) (hall : l.all (inOk p) = true) (hof : mounts_Of.f (kOf l) l p = some (j : Int)) (hj : j < l.length) (ho : own_ p l = true) (hm : movB (rd_T27 l (at_ p l : Nat)) = false) (hbu : l.any (busyB p) = false) (hz : ((rd_T27 l (j : Nat)).f1 == d) = true) :
    Calls Try.prog 12 #[.slice A l.length c, .string p, .int .i64 d] w (Post w P0 l ⟨#[]⟩ 0 0 0 61) := by
  have HR := Lib.hid (fun W (hW : Below w.heap.size w W) => mounts_Right.calls (l.length + 10) A c l true W (Kd.C_below hr hW) hc h1)
  have HP := Lib.hid (fun W => path_Right.calls p true W h2)
  have HG := Lib.hid (fun W => (mounts_group.calls d true W h3).mono (fun e w' (h : _ ∧ _) => And.intro h.1 h.2.below))
  have HF := Lib.hid (fun W (hW : Below w.heap.size w W) => find_calls A c l p W (Kd.C_below hr hW) (by omega))
  have HBU := Lib.hid (fun W g (hg : W.heap[g]? = some (.cells #[.string p] 9 (0, 0))) (hW : Below w.heap.size w W) => IMount.contains_calls 28 #[.pointer (some ⟨g, 0, none⟩)] (enters_of Try.func28 (by kernel_rfl) rfl) (busyB p) A c l W (busy_pred p g l W hall hg) (Kd.C_below hr hW) (by omega))
  have HOF := Lib.hid (fun W (hW : Below w.heap.size w W) => mounts_Of.calls (kOf l) A c l p (j : Int) W (Kd.C_below hr hW) hc hof)
  obtain ⟨ad, ea, hy0, hy1, hy2, hy3⟩ := at_T27 hr (j : Nat) (by omega) (by omega)
  simp only [Int.toNat_natCast] at hy0 hy1 hy2 hy3
  have HV := Lib.hid hv
  rw [ho] at HF
  rw [hbu] at HBU
  have hlt : at_ p l < l.length := by
    have : (decide (at_ p l < l.length) && decide (cmpP p (rd_T27 l (at_ p l : Nat)) = 0)) = true := ho
    simp at this
    exact this.1
  obtain ⟨ad2, ea2, hx0, hx1, hx2, hx3⟩ := at_T27 hr (at_ p l : Nat) (by omega) (by omega)
  simp only [Int.toNat_natCast] at hx0 hx1 hx2 hx3
  obtain rfl : ad = ad2 := Option.some.inj (ea.symm.trans ea2)
  have HLE := Lib.hid (at_le p l)
  obtain ⟨i, hi⟩ : ∃ i, at_ p l = i := ⟨_, rfl⟩
  rw [hi] at HF HLE hx0 hx1 hx2 hx3 hlt hm
  (try rw [hi])
  obtain ⟨x, hxx⟩ : ∃ x, rd_T27 l (i : Nat) = x := ⟨_, rfl⟩
  rw [hxx] at hx0 hx1 hx2 hx3 hm
  have HX := Lib.hid (And.intro hx0 (And.intro hx1 (And.intro hx2 hx3)))
  obtain ⟨mv, hmv⟩ : ∃ mv, movB x = mv := ⟨_, rfl⟩
  have HM := Lib.hid (fun W => moves_is x mv hmv W)
  rw [hmv] at hm
  obtain ⟨y, hyy⟩ : ∃ y, rd_T27 l (j : Nat) = y := ⟨_, rfl⟩
  rw [hyy] at hy0 hy1 hy2 hy3 hz
  (try rw [hyy])
  have HY := Lib.hid (And.intro hy0 (And.intro hy1 (And.intro hy2 hy3)))
  obtain ⟨n, hn⟩ : ∃ n, l.length = n := ⟨_, rfl⟩
  have HN := Lib.hid hn
  rw [hn] at HR HF HBU HOF HV hj h32 hlt ⊢
  have hjz : (j : Int) < (n : Int) := by omega
  clear hr hc h1 h2 h3 ho hv hy0 hy1 hy2 hy3 hi hyy hof hall hbu hx0 hx1 hx2 hx3 hxx hmv ea2
  cases ea
  
  have hlz : (i : Int) < (n : Int) := by omega
  
  subst hm
  go_enter Try.func12, Try.ntmps12
  go_wp2_with fail
  refine (HR.out _ (by repeat (first | exact Below.refl _ _ | apply below_alloc))).mono ?_
  rintro e w1 ⟨rfl, hb1⟩
  obtain ⟨hB, hP, hX⟩ := start1 hb1
  have HB1 := Lib.hid hB
  have HBP1 : Hid (w1.heap[w.heap.size]? = some (boxP p)) := hP
  have HBX1 : Hid (w1.heap[w.heap.size + 1]? = some zeroM) := hX
  clear hb1 hB hP hX
  have cp1 : w1.cell? ⟨w.heap.size, 0, none⟩ = some (.string p) := blk_cell HBP1.out 0
  have x0_1 : w1.cell? ⟨w.heap.size + 1, 0, none⟩ = some (.string ⟨#[]⟩) := blk_cell HBX1.out 0
  have f0_1 := blk_frozen HBX1.out 0
  have x1_1 : w1.cell? ⟨w.heap.size + 1, 1, none⟩ = some (.int .i64 0) := blk_cell HBX1.out 1
  have f1_1 := blk_frozen HBX1.out 1
  have x2_1 : w1.cell? ⟨w.heap.size + 1, 2, none⟩ = some (.int .i64 0) := blk_cell HBX1.out 2
  have f2_1 := blk_frozen HBX1.out 2
  have x3_1 : w1.cell? ⟨w.heap.size + 1, 3, none⟩ = some (.int .i64 0) := blk_cell HBX1.out 3
  have f3_1 := blk_frozen HBX1.out 3
  have a0_1 : w1.cell? _ = _ := (HB1.out.cell (World.block_lt_of_cell? w _ HX.out.1)).trans HX.out.1
  have a1_1 : w1.cell? _ = _ := (HB1.out.cell (World.block_lt_of_cell? w _ HX.out.2.1)).trans HX.out.2.1
  have a2_1 : w1.cell? _ = _ := (HB1.out.cell (World.block_lt_of_cell? w _ HX.out.2.2.1)).trans HX.out.2.2.1
  have a3_1 : w1.cell? _ = _ := (HB1.out.cell (World.block_lt_of_cell? w _ HX.out.2.2.2)).trans HX.out.2.2.2
  have b0_1 : w1.cell? _ = _ := (HB1.out.cell (World.block_lt_of_cell? w _ HY.out.1)).trans HY.out.1
  have b1_1 : w1.cell? _ = _ := (HB1.out.cell (World.block_lt_of_cell? w _ HY.out.2.1)).trans HY.out.2.1
  have b2_1 : w1.cell? _ = _ := (HB1.out.cell (World.block_lt_of_cell? w _ HY.out.2.2.1)).trans HY.out.2.2.1
  have b3_1 : w1.cell? _ = _ := (HB1.out.cell (World.block_lt_of_cell? w _ HY.out.2.2.2)).trans HY.out.2.2.2
  go_wp2_with fail
  refine (HP.out _).mono ?_
  rintro e w2 ⟨rfl, hb⟩
  clear cp1 x0_1 f0_1 x1_1 f1_1 x2_1 f2_1 x3_1 f3_1 a0_1 a1_1 a2_1 a3_1 b0_1 b1_1 b2_1 b3_1
  have HB2 : Hid (Below w.heap.size w w2) := below_step HB1.out hb
  have HBP2 : Hid (w2.heap[w.heap.size]? = some (boxP p)) := stepH HBP1.out hb
  have HBX2 : Hid (w2.heap[w.heap.size + 1]? = some zeroM) := stepH HBX1.out hb
  clear hb HB1 HBP1 HBX1
  have cp2 : w2.cell? ⟨w.heap.size, 0, none⟩ = some (.string p) := blk_cell HBP2.out 0
  have x0_2 : w2.cell? ⟨w.heap.size + 1, 0, none⟩ = some (.string ⟨#[]⟩) := blk_cell HBX2.out 0
  have f0_2 := blk_frozen HBX2.out 0
  have x1_2 : w2.cell? ⟨w.heap.size + 1, 1, none⟩ = some (.int .i64 0) := blk_cell HBX2.out 1
  have f1_2 := blk_frozen HBX2.out 1
  have x2_2 : w2.cell? ⟨w.heap.size + 1, 2, none⟩ = some (.int .i64 0) := blk_cell HBX2.out 2
  have f2_2 := blk_frozen HBX2.out 2
  have x3_2 : w2.cell? ⟨w.heap.size + 1, 3, none⟩ = some (.int .i64 0) := blk_cell HBX2.out 3
  have f3_2 := blk_frozen HBX2.out 3
  have a0_2 : w2.cell? _ = _ := (HB2.out.cell (World.block_lt_of_cell? w _ HX.out.1)).trans HX.out.1
  have a1_2 : w2.cell? _ = _ := (HB2.out.cell (World.block_lt_of_cell? w _ HX.out.2.1)).trans HX.out.2.1
  have a2_2 : w2.cell? _ = _ := (HB2.out.cell (World.block_lt_of_cell? w _ HX.out.2.2.1)).trans HX.out.2.2.1
  have a3_2 : w2.cell? _ = _ := (HB2.out.cell (World.block_lt_of_cell? w _ HX.out.2.2.2)).trans HX.out.2.2.2
  have b0_2 : w2.cell? _ = _ := (HB2.out.cell (World.block_lt_of_cell? w _ HY.out.1)).trans HY.out.1
  have b1_2 : w2.cell? _ = _ := (HB2.out.cell (World.block_lt_of_cell? w _ HY.out.2.1)).trans HY.out.2.1
  have b2_2 : w2.cell? _ = _ := (HB2.out.cell (World.block_lt_of_cell? w _ HY.out.2.2.1)).trans HY.out.2.2.1
  have b3_2 : w2.cell? _ = _ := (HB2.out.cell (World.block_lt_of_cell? w _ HY.out.2.2.2)).trans HY.out.2.2.2
  go_wp2_with fail
  refine (HG.out _).mono ?_
  rintro e w3 ⟨rfl, hb⟩
  clear cp2 x0_2 f0_2 x1_2 f1_2 x2_2 f2_2 x3_2 f3_2 a0_2 a1_2 a2_2 a3_2 b0_2 b1_2 b2_2 b3_2
  have HB3 : Hid (Below w.heap.size w w3) := below_step HB2.out hb
  have HBP3 : Hid (w3.heap[w.heap.size]? = some (boxP p)) := stepH HBP2.out hb
  have HBX3 : Hid (w3.heap[w.heap.size + 1]? = some zeroM) := stepH HBX2.out hb
  clear hb HB2 HBP2 HBX2
  have cp3 : w3.cell? ⟨w.heap.size, 0, none⟩ = some (.string p) := blk_cell HBP3.out 0
  have x0_3 : w3.cell? ⟨w.heap.size + 1, 0, none⟩ = some (.string ⟨#[]⟩) := blk_cell HBX3.out 0
  have f0_3 := blk_frozen HBX3.out 0
  have x1_3 : w3.cell? ⟨w.heap.size + 1, 1, none⟩ = some (.int .i64 0) := blk_cell HBX3.out 1
  have f1_3 := blk_frozen HBX3.out 1
  have x2_3 : w3.cell? ⟨w.heap.size + 1, 2, none⟩ = some (.int .i64 0) := blk_cell HBX3.out 2
  have f2_3 := blk_frozen HBX3.out 2
  have x3_3 : w3.cell? ⟨w.heap.size + 1, 3, none⟩ = some (.int .i64 0) := blk_cell HBX3.out 3
  have f3_3 := blk_frozen HBX3.out 3
  have a0_3 : w3.cell? _ = _ := (HB3.out.cell (World.block_lt_of_cell? w _ HX.out.1)).trans HX.out.1
  have a1_3 : w3.cell? _ = _ := (HB3.out.cell (World.block_lt_of_cell? w _ HX.out.2.1)).trans HX.out.2.1
  have a2_3 : w3.cell? _ = _ := (HB3.out.cell (World.block_lt_of_cell? w _ HX.out.2.2.1)).trans HX.out.2.2.1
  have a3_3 : w3.cell? _ = _ := (HB3.out.cell (World.block_lt_of_cell? w _ HX.out.2.2.2)).trans HX.out.2.2.2
  have b0_3 : w3.cell? _ = _ := (HB3.out.cell (World.block_lt_of_cell? w _ HY.out.1)).trans HY.out.1
  have b1_3 : w3.cell? _ = _ := (HB3.out.cell (World.block_lt_of_cell? w _ HY.out.2.1)).trans HY.out.2.1
  have b2_3 : w3.cell? _ = _ := (HB3.out.cell (World.block_lt_of_cell? w _ HY.out.2.2.1)).trans HY.out.2.2.1
  have b3_3 : w3.cell? _ = _ := (HB3.out.cell (World.block_lt_of_cell? w _ HY.out.2.2.2)).trans HY.out.2.2.2
  go_wp2_with fail
  refine (HF.out _ HB3.out).mono ?_
  rintro e w4 ⟨rfl, hb⟩
  clear cp3 x0_3 f0_3 x1_3 f1_3 x2_3 f2_3 x3_3 f3_3 a0_3 a1_3 a2_3 a3_3 b0_3 b1_3 b2_3 b3_3
  have HB4 : Hid (Below w.heap.size w w4) := below_step HB3.out hb
  have HBP4 : Hid (w4.heap[w.heap.size]? = some (boxP p)) := stepH HBP3.out hb
  have HBX4 : Hid (w4.heap[w.heap.size + 1]? = some zeroM) := stepH HBX3.out hb
  clear hb HB3 HBP3 HBX3
  have cp4 : w4.cell? ⟨w.heap.size, 0, none⟩ = some (.string p) := blk_cell HBP4.out 0
  have x0_4 : w4.cell? ⟨w.heap.size + 1, 0, none⟩ = some (.string ⟨#[]⟩) := blk_cell HBX4.out 0
  have f0_4 := blk_frozen HBX4.out 0
  have x1_4 : w4.cell? ⟨w.heap.size + 1, 1, none⟩ = some (.int .i64 0) := blk_cell HBX4.out 1
  have f1_4 := blk_frozen HBX4.out 1
  have x2_4 : w4.cell? ⟨w.heap.size + 1, 2, none⟩ = some (.int .i64 0) := blk_cell HBX4.out 2
  have f2_4 := blk_frozen HBX4.out 2
  have x3_4 : w4.cell? ⟨w.heap.size + 1, 3, none⟩ = some (.int .i64 0) := blk_cell HBX4.out 3
  have f3_4 := blk_frozen HBX4.out 3
  have a0_4 : w4.cell? _ = _ := (HB4.out.cell (World.block_lt_of_cell? w _ HX.out.1)).trans HX.out.1
  have a1_4 : w4.cell? _ = _ := (HB4.out.cell (World.block_lt_of_cell? w _ HX.out.2.1)).trans HX.out.2.1
  have a2_4 : w4.cell? _ = _ := (HB4.out.cell (World.block_lt_of_cell? w _ HX.out.2.2.1)).trans HX.out.2.2.1
  have a3_4 : w4.cell? _ = _ := (HB4.out.cell (World.block_lt_of_cell? w _ HX.out.2.2.2)).trans HX.out.2.2.2
  have b0_4 : w4.cell? _ = _ := (HB4.out.cell (World.block_lt_of_cell? w _ HY.out.1)).trans HY.out.1
  have b1_4 : w4.cell? _ = _ := (HB4.out.cell (World.block_lt_of_cell? w _ HY.out.2.1)).trans HY.out.2.1
  have b2_4 : w4.cell? _ = _ := (HB4.out.cell (World.block_lt_of_cell? w _ HY.out.2.2.1)).trans HY.out.2.2.1
  have b3_4 : w4.cell? _ = _ := (HB4.out.cell (World.block_lt_of_cell? w _ HY.out.2.2.2)).trans HY.out.2.2.2
  go_wp2_with fail
  refine (HM.out _).mono ?_
  rintro e w5 ⟨rfl, hb⟩
  clear cp4 x0_4 f0_4 x1_4 f1_4 x2_4 f2_4 x3_4 f3_4 a0_4 a1_4 a2_4 a3_4 b0_4 b1_4 b2_4 b3_4
  have HB5 : Hid (Below w.heap.size w w5) := below_step HB4.out hb
  have HBP5 : Hid (w5.heap[w.heap.size]? = some (boxP p)) := stepH HBP4.out hb
  have HBX5 : Hid (w5.heap[w.heap.size + 1]? = some zeroM) := stepH HBX4.out hb
  clear hb HB4 HBP4 HBX4
  have cp5 : w5.cell? ⟨w.heap.size, 0, none⟩ = some (.string p) := blk_cell HBP5.out 0
  have x0_5 : w5.cell? ⟨w.heap.size + 1, 0, none⟩ = some (.string ⟨#[]⟩) := blk_cell HBX5.out 0
  have f0_5 := blk_frozen HBX5.out 0
  have x1_5 : w5.cell? ⟨w.heap.size + 1, 1, none⟩ = some (.int .i64 0) := blk_cell HBX5.out 1
  have f1_5 := blk_frozen HBX5.out 1
  have x2_5 : w5.cell? ⟨w.heap.size + 1, 2, none⟩ = some (.int .i64 0) := blk_cell HBX5.out 2
  have f2_5 := blk_frozen HBX5.out 2
  have x3_5 : w5.cell? ⟨w.heap.size + 1, 3, none⟩ = some (.int .i64 0) := blk_cell HBX5.out 3
  have f3_5 := blk_frozen HBX5.out 3
  have a0_5 : w5.cell? _ = _ := (HB5.out.cell (World.block_lt_of_cell? w _ HX.out.1)).trans HX.out.1
  have a1_5 : w5.cell? _ = _ := (HB5.out.cell (World.block_lt_of_cell? w _ HX.out.2.1)).trans HX.out.2.1
  have a2_5 : w5.cell? _ = _ := (HB5.out.cell (World.block_lt_of_cell? w _ HX.out.2.2.1)).trans HX.out.2.2.1
  have a3_5 : w5.cell? _ = _ := (HB5.out.cell (World.block_lt_of_cell? w _ HX.out.2.2.2)).trans HX.out.2.2.2
  have b0_5 : w5.cell? _ = _ := (HB5.out.cell (World.block_lt_of_cell? w _ HY.out.1)).trans HY.out.1
  have b1_5 : w5.cell? _ = _ := (HB5.out.cell (World.block_lt_of_cell? w _ HY.out.2.1)).trans HY.out.2.1
  have b2_5 : w5.cell? _ = _ := (HB5.out.cell (World.block_lt_of_cell? w _ HY.out.2.2.1)).trans HY.out.2.2.1
  have b3_5 : w5.cell? _ = _ := (HB5.out.cell (World.block_lt_of_cell? w _ HY.out.2.2.2)).trans HY.out.2.2.2
  go_wp2_with fail
  refine (HBU.out _ _ HBP5.out HB5.out).mono ?_
  rintro e w6 ⟨rfl, hb⟩
  clear cp5 x0_5 f0_5 x1_5 f1_5 x2_5 f2_5 x3_5 f3_5 a0_5 a1_5 a2_5 a3_5 b0_5 b1_5 b2_5 b3_5
  have HB6 : Hid (Below w.heap.size w w6) := below_step HB5.out hb
  have HBP6 : Hid (w6.heap[w.heap.size]? = some (boxP p)) := stepH HBP5.out hb
  have HBX6 : Hid (w6.heap[w.heap.size + 1]? = some zeroM) := stepH HBX5.out hb
  clear hb HB5 HBP5 HBX5
  have cp6 : w6.cell? ⟨w.heap.size, 0, none⟩ = some (.string p) := blk_cell HBP6.out 0
  have x0_6 : w6.cell? ⟨w.heap.size + 1, 0, none⟩ = some (.string ⟨#[]⟩) := blk_cell HBX6.out 0
  have f0_6 := blk_frozen HBX6.out 0
  have x1_6 : w6.cell? ⟨w.heap.size + 1, 1, none⟩ = some (.int .i64 0) := blk_cell HBX6.out 1
  have f1_6 := blk_frozen HBX6.out 1
  have x2_6 : w6.cell? ⟨w.heap.size + 1, 2, none⟩ = some (.int .i64 0) := blk_cell HBX6.out 2
  have f2_6 := blk_frozen HBX6.out 2
  have x3_6 : w6.cell? ⟨w.heap.size + 1, 3, none⟩ = some (.int .i64 0) := blk_cell HBX6.out 3
  have f3_6 := blk_frozen HBX6.out 3
  have a0_6 : w6.cell? _ = _ := (HB6.out.cell (World.block_lt_of_cell? w _ HX.out.1)).trans HX.out.1
  have a1_6 : w6.cell? _ = _ := (HB6.out.cell (World.block_lt_of_cell? w _ HX.out.2.1)).trans HX.out.2.1
  have a2_6 : w6.cell? _ = _ := (HB6.out.cell (World.block_lt_of_cell? w _ HX.out.2.2.1)).trans HX.out.2.2.1
  have a3_6 : w6.cell? _ = _ := (HB6.out.cell (World.block_lt_of_cell? w _ HX.out.2.2.2)).trans HX.out.2.2.2
  have b0_6 : w6.cell? _ = _ := (HB6.out.cell (World.block_lt_of_cell? w _ HY.out.1)).trans HY.out.1
  have b1_6 : w6.cell? _ = _ := (HB6.out.cell (World.block_lt_of_cell? w _ HY.out.2.1)).trans HY.out.2.1
  have b2_6 : w6.cell? _ = _ := (HB6.out.cell (World.block_lt_of_cell? w _ HY.out.2.2.1)).trans HY.out.2.2.1
  have b3_6 : w6.cell? _ = _ := (HB6.out.cell (World.block_lt_of_cell? w _ HY.out.2.2.2)).trans HY.out.2.2.2
  go_wp2_with fail
  refine (HOF.out _ HB6.out).mono ?_
  rintro e w7 ⟨rfl, hb⟩
  clear cp6 x0_6 f0_6 x1_6 f1_6 x2_6 f2_6 x3_6 f3_6 a0_6 a1_6 a2_6 a3_6 b0_6 b1_6 b2_6 b3_6
  have HB7 : Hid (Below w.heap.size w w7) := below_step HB6.out hb
  have HBP7 : Hid (w7.heap[w.heap.size]? = some (boxP p)) := stepH HBP6.out hb
  have HBX7 : Hid (w7.heap[w.heap.size + 1]? = some zeroM) := stepH HBX6.out hb
  clear hb HB6 HBP6 HBX6
  have cp7 : w7.cell? ⟨w.heap.size, 0, none⟩ = some (.string p) := blk_cell HBP7.out 0
  have x0_7 : w7.cell? ⟨w.heap.size + 1, 0, none⟩ = some (.string ⟨#[]⟩) := blk_cell HBX7.out 0
  have f0_7 := blk_frozen HBX7.out 0
  have x1_7 : w7.cell? ⟨w.heap.size + 1, 1, none⟩ = some (.int .i64 0) := blk_cell HBX7.out 1
  have f1_7 := blk_frozen HBX7.out 1
  have x2_7 : w7.cell? ⟨w.heap.size + 1, 2, none⟩ = some (.int .i64 0) := blk_cell HBX7.out 2
  have f2_7 := blk_frozen HBX7.out 2
  have x3_7 : w7.cell? ⟨w.heap.size + 1, 3, none⟩ = some (.int .i64 0) := blk_cell HBX7.out 3
  have f3_7 := blk_frozen HBX7.out 3
  have a0_7 : w7.cell? _ = _ := (HB7.out.cell (World.block_lt_of_cell? w _ HX.out.1)).trans HX.out.1
  have a1_7 : w7.cell? _ = _ := (HB7.out.cell (World.block_lt_of_cell? w _ HX.out.2.1)).trans HX.out.2.1
  have a2_7 : w7.cell? _ = _ := (HB7.out.cell (World.block_lt_of_cell? w _ HX.out.2.2.1)).trans HX.out.2.2.1
  have a3_7 : w7.cell? _ = _ := (HB7.out.cell (World.block_lt_of_cell? w _ HX.out.2.2.2)).trans HX.out.2.2.2
  have b0_7 : w7.cell? _ = _ := (HB7.out.cell (World.block_lt_of_cell? w _ HY.out.1)).trans HY.out.1
  have b1_7 : w7.cell? _ = _ := (HB7.out.cell (World.block_lt_of_cell? w _ HY.out.2.1)).trans HY.out.2.1
  have b2_7 : w7.cell? _ = _ := (HB7.out.cell (World.block_lt_of_cell? w _ HY.out.2.2.1)).trans HY.out.2.2.1
  have b3_7 : w7.cell? _ = _ := (HB7.out.cell (World.block_lt_of_cell? w _ HY.out.2.2.2)).trans HY.out.2.2.2
  have g0 := blk_lt HBP7.out
  have g1 := blk_lt HBX7.out
  go_wp2_with fail
  refine bodyPost_ret (results_list (rs := [.tmp 6, .cell 7 27, .tmp 8]) rfl (by simp) (.tmp (.cell (w.heap.size + 1) 27 _ (0, 0) _ rfl (setXa HBX7.out _ _ _ _ _) Try.underlying27 rfl (by kernel_rfl) (.tmp .nil)))) rfl ?_
  refine ⟨_, rfl, Kd.V_mono (Kd.V_below HV.out ?_) (fun _ hk => .inl hk), ?_⟩
  all_goals repeat (first | exact HB7.out | refine below_alloc ?_ _ | refine Below.drew ?_ | refine Below.setCell ?_ (Nat.le_succ _) _)

set_option maxHeartbeats 8000000 in
set_option maxRecDepth 100000 in
theorem begin_most_B (P0 : Nat → Prop) (A : Option Addr) (c : Nat) (l : List S27) (p : ByteArray) (d : Int) (j : Nat) (w : World) (hv : Kd.V k27 27 w w.heap.size P0 (.slice A l.length c) l) (hr : Kd.C k27 w A l.length l) (hc : l.length ≤ c)
    (h1 : mounts_Right.f (l.length + 10) l = some true) (h2 : path_Right.f p = some true) (h3 : mounts_group.f d = some true) (h32 : l.length ≤ 32) (hall : l.all (inOk p) = true) (hof : mounts_Of.f (kOf l) l p = some (j : Int)) (hj : j < l.length) (ho : own_ p l = true) (hm : movB (rd_T27 l (at_ p l : Nat)) = false) (hbu : l.any (busyB p) = false) (hz : ((rd_T27 l (j : Nat)).f1 == d) = false ∧ ((rd_T27 l (j : Nat)).f2 == 281474976710656) = true) :
    Calls Try.prog 12 #[.slice A l.length c, .string p, .int .i64 d] w (Post w P0 l ⟨#[]⟩ 0 0 0 2) := by
  have HR := Lib.hid (fun W (hW : Below w.heap.size w W) => mounts_Right.calls (l.length + 10) A c l true W (Kd.C_below hr hW) hc h1)
  have HP := Lib.hid (fun W => path_Right.calls p true W h2)
  have HG := Lib.hid (fun W => (mounts_group.calls d true W h3).mono (fun e w' (h : _ ∧ _) => And.intro h.1 h.2.below))
  have HF := Lib.hid (fun W (hW : Below w.heap.size w W) => find_calls A c l p W (Kd.C_below hr hW) (by omega))
  have HBU := Lib.hid (fun W g (hg : W.heap[g]? = some (.cells #[.string p] 9 (0, 0))) (hW : Below w.heap.size w W) => IMount.contains_calls 28 #[.pointer (some ⟨g, 0, none⟩)] (enters_of Try.func28 (by kernel_rfl) rfl) (busyB p) A c l W (busy_pred p g l W hall hg) (Kd.C_below hr hW) (by omega))
  have HOF := Lib.hid (fun W (hW : Below w.heap.size w W) => mounts_Of.calls (kOf l) A c l p (j : Int) W (Kd.C_below hr hW) hc hof)
  obtain ⟨ad, ea, hy0, hy1, hy2, hy3⟩ := at_T27 hr (j : Nat) (by omega) (by omega)
  simp only [Int.toNat_natCast] at hy0 hy1 hy2 hy3
  have HV := Lib.hid hv
  rw [ho] at HF
  rw [hbu] at HBU
  have hlt : at_ p l < l.length := by
    have : (decide (at_ p l < l.length) && decide (cmpP p (rd_T27 l (at_ p l : Nat)) = 0)) = true := ho
    simp at this
    exact this.1
  obtain ⟨ad2, ea2, hx0, hx1, hx2, hx3⟩ := at_T27 hr (at_ p l : Nat) (by omega) (by omega)
  simp only [Int.toNat_natCast] at hx0 hx1 hx2 hx3
  obtain rfl : ad = ad2 := Option.some.inj (ea.symm.trans ea2)
  have HLE := Lib.hid (at_le p l)
  obtain ⟨i, hi⟩ : ∃ i, at_ p l = i := ⟨_, rfl⟩
  rw [hi] at HF HLE hx0 hx1 hx2 hx3 hlt hm
  (try rw [hi])
  obtain ⟨x, hxx⟩ : ∃ x, rd_T27 l (i : Nat) = x := ⟨_, rfl⟩
  rw [hxx] at hx0 hx1 hx2 hx3 hm
  have HX := Lib.hid (And.intro hx0 (And.intro hx1 (And.intro hx2 hx3)))
  obtain ⟨mv, hmv⟩ : ∃ mv, movB x = mv := ⟨_, rfl⟩
  have HM := Lib.hid (fun W => moves_is x mv hmv W)
  rw [hmv] at hm
  obtain ⟨y, hyy⟩ : ∃ y, rd_T27 l (j : Nat) = y := ⟨_, rfl⟩
  rw [hyy] at hy0 hy1 hy2 hy3 hz
  (try rw [hyy])
  have HY := Lib.hid (And.intro hy0 (And.intro hy1 (And.intro hy2 hy3)))
  obtain ⟨n, hn⟩ : ∃ n, l.length = n := ⟨_, rfl⟩
  have HN := Lib.hid hn
  rw [hn] at HR HF HBU HOF HV hj h32 hlt ⊢
  have hjz : (j : Int) < (n : Int) := by omega
  clear hr hc h1 h2 h3 ho hv hy0 hy1 hy2 hy3 hi hyy hof hall hbu hx0 hx1 hx2 hx3 hxx hmv ea2
  cases ea
  
  have hlz : (i : Int) < (n : Int) := by omega
  
  obtain ⟨hz1, hz2⟩ := hz
  subst hm
  go_enter Try.func12, Try.ntmps12
  go_wp2_with fail
  refine (HR.out _ (by repeat (first | exact Below.refl _ _ | apply below_alloc))).mono ?_
  rintro e w1 ⟨rfl, hb1⟩
  obtain ⟨hB, hP, hX⟩ := start1 hb1
  have HB1 := Lib.hid hB
  have HBP1 : Hid (w1.heap[w.heap.size]? = some (boxP p)) := hP
  have HBX1 : Hid (w1.heap[w.heap.size + 1]? = some zeroM) := hX
  clear hb1 hB hP hX
  have cp1 : w1.cell? ⟨w.heap.size, 0, none⟩ = some (.string p) := blk_cell HBP1.out 0
  have x0_1 : w1.cell? ⟨w.heap.size + 1, 0, none⟩ = some (.string ⟨#[]⟩) := blk_cell HBX1.out 0
  have f0_1 := blk_frozen HBX1.out 0
  have x1_1 : w1.cell? ⟨w.heap.size + 1, 1, none⟩ = some (.int .i64 0) := blk_cell HBX1.out 1
  have f1_1 := blk_frozen HBX1.out 1
  have x2_1 : w1.cell? ⟨w.heap.size + 1, 2, none⟩ = some (.int .i64 0) := blk_cell HBX1.out 2
  have f2_1 := blk_frozen HBX1.out 2
  have x3_1 : w1.cell? ⟨w.heap.size + 1, 3, none⟩ = some (.int .i64 0) := blk_cell HBX1.out 3
  have f3_1 := blk_frozen HBX1.out 3
  have a0_1 : w1.cell? _ = _ := (HB1.out.cell (World.block_lt_of_cell? w _ HX.out.1)).trans HX.out.1
  have a1_1 : w1.cell? _ = _ := (HB1.out.cell (World.block_lt_of_cell? w _ HX.out.2.1)).trans HX.out.2.1
  have a2_1 : w1.cell? _ = _ := (HB1.out.cell (World.block_lt_of_cell? w _ HX.out.2.2.1)).trans HX.out.2.2.1
  have a3_1 : w1.cell? _ = _ := (HB1.out.cell (World.block_lt_of_cell? w _ HX.out.2.2.2)).trans HX.out.2.2.2
  have b0_1 : w1.cell? _ = _ := (HB1.out.cell (World.block_lt_of_cell? w _ HY.out.1)).trans HY.out.1
  have b1_1 : w1.cell? _ = _ := (HB1.out.cell (World.block_lt_of_cell? w _ HY.out.2.1)).trans HY.out.2.1
  have b2_1 : w1.cell? _ = _ := (HB1.out.cell (World.block_lt_of_cell? w _ HY.out.2.2.1)).trans HY.out.2.2.1
  have b3_1 : w1.cell? _ = _ := (HB1.out.cell (World.block_lt_of_cell? w _ HY.out.2.2.2)).trans HY.out.2.2.2
  go_wp2_with fail
  refine (HP.out _).mono ?_
  rintro e w2 ⟨rfl, hb⟩
  clear cp1 x0_1 f0_1 x1_1 f1_1 x2_1 f2_1 x3_1 f3_1 a0_1 a1_1 a2_1 a3_1 b0_1 b1_1 b2_1 b3_1
  have HB2 : Hid (Below w.heap.size w w2) := below_step HB1.out hb
  have HBP2 : Hid (w2.heap[w.heap.size]? = some (boxP p)) := stepH HBP1.out hb
  have HBX2 : Hid (w2.heap[w.heap.size + 1]? = some zeroM) := stepH HBX1.out hb
  clear hb HB1 HBP1 HBX1
  have cp2 : w2.cell? ⟨w.heap.size, 0, none⟩ = some (.string p) := blk_cell HBP2.out 0
  have x0_2 : w2.cell? ⟨w.heap.size + 1, 0, none⟩ = some (.string ⟨#[]⟩) := blk_cell HBX2.out 0
  have f0_2 := blk_frozen HBX2.out 0
  have x1_2 : w2.cell? ⟨w.heap.size + 1, 1, none⟩ = some (.int .i64 0) := blk_cell HBX2.out 1
  have f1_2 := blk_frozen HBX2.out 1
  have x2_2 : w2.cell? ⟨w.heap.size + 1, 2, none⟩ = some (.int .i64 0) := blk_cell HBX2.out 2
  have f2_2 := blk_frozen HBX2.out 2
  have x3_2 : w2.cell? ⟨w.heap.size + 1, 3, none⟩ = some (.int .i64 0) := blk_cell HBX2.out 3
  have f3_2 := blk_frozen HBX2.out 3
  have a0_2 : w2.cell? _ = _ := (HB2.out.cell (World.block_lt_of_cell? w _ HX.out.1)).trans HX.out.1
  have a1_2 : w2.cell? _ = _ := (HB2.out.cell (World.block_lt_of_cell? w _ HX.out.2.1)).trans HX.out.2.1
  have a2_2 : w2.cell? _ = _ := (HB2.out.cell (World.block_lt_of_cell? w _ HX.out.2.2.1)).trans HX.out.2.2.1
  have a3_2 : w2.cell? _ = _ := (HB2.out.cell (World.block_lt_of_cell? w _ HX.out.2.2.2)).trans HX.out.2.2.2
  have b0_2 : w2.cell? _ = _ := (HB2.out.cell (World.block_lt_of_cell? w _ HY.out.1)).trans HY.out.1
  have b1_2 : w2.cell? _ = _ := (HB2.out.cell (World.block_lt_of_cell? w _ HY.out.2.1)).trans HY.out.2.1
  have b2_2 : w2.cell? _ = _ := (HB2.out.cell (World.block_lt_of_cell? w _ HY.out.2.2.1)).trans HY.out.2.2.1
  have b3_2 : w2.cell? _ = _ := (HB2.out.cell (World.block_lt_of_cell? w _ HY.out.2.2.2)).trans HY.out.2.2.2
  go_wp2_with fail
  refine (HG.out _).mono ?_
  rintro e w3 ⟨rfl, hb⟩
  clear cp2 x0_2 f0_2 x1_2 f1_2 x2_2 f2_2 x3_2 f3_2 a0_2 a1_2 a2_2 a3_2 b0_2 b1_2 b2_2 b3_2
  have HB3 : Hid (Below w.heap.size w w3) := below_step HB2.out hb
  have HBP3 : Hid (w3.heap[w.heap.size]? = some (boxP p)) := stepH HBP2.out hb
  have HBX3 : Hid (w3.heap[w.heap.size + 1]? = some zeroM) := stepH HBX2.out hb
  clear hb HB2 HBP2 HBX2
  have cp3 : w3.cell? ⟨w.heap.size, 0, none⟩ = some (.string p) := blk_cell HBP3.out 0
  have x0_3 : w3.cell? ⟨w.heap.size + 1, 0, none⟩ = some (.string ⟨#[]⟩) := blk_cell HBX3.out 0
  have f0_3 := blk_frozen HBX3.out 0
  have x1_3 : w3.cell? ⟨w.heap.size + 1, 1, none⟩ = some (.int .i64 0) := blk_cell HBX3.out 1
  have f1_3 := blk_frozen HBX3.out 1
  have x2_3 : w3.cell? ⟨w.heap.size + 1, 2, none⟩ = some (.int .i64 0) := blk_cell HBX3.out 2
  have f2_3 := blk_frozen HBX3.out 2
  have x3_3 : w3.cell? ⟨w.heap.size + 1, 3, none⟩ = some (.int .i64 0) := blk_cell HBX3.out 3
  have f3_3 := blk_frozen HBX3.out 3
  have a0_3 : w3.cell? _ = _ := (HB3.out.cell (World.block_lt_of_cell? w _ HX.out.1)).trans HX.out.1
  have a1_3 : w3.cell? _ = _ := (HB3.out.cell (World.block_lt_of_cell? w _ HX.out.2.1)).trans HX.out.2.1
  have a2_3 : w3.cell? _ = _ := (HB3.out.cell (World.block_lt_of_cell? w _ HX.out.2.2.1)).trans HX.out.2.2.1
  have a3_3 : w3.cell? _ = _ := (HB3.out.cell (World.block_lt_of_cell? w _ HX.out.2.2.2)).trans HX.out.2.2.2
  have b0_3 : w3.cell? _ = _ := (HB3.out.cell (World.block_lt_of_cell? w _ HY.out.1)).trans HY.out.1
  have b1_3 : w3.cell? _ = _ := (HB3.out.cell (World.block_lt_of_cell? w _ HY.out.2.1)).trans HY.out.2.1
  have b2_3 : w3.cell? _ = _ := (HB3.out.cell (World.block_lt_of_cell? w _ HY.out.2.2.1)).trans HY.out.2.2.1
  have b3_3 : w3.cell? _ = _ := (HB3.out.cell (World.block_lt_of_cell? w _ HY.out.2.2.2)).trans HY.out.2.2.2
  go_wp2_with fail
  refine (HF.out _ HB3.out).mono ?_
  rintro e w4 ⟨rfl, hb⟩
  clear cp3 x0_3 f0_3 x1_3 f1_3 x2_3 f2_3 x3_3 f3_3 a0_3 a1_3 a2_3 a3_3 b0_3 b1_3 b2_3 b3_3
  have HB4 : Hid (Below w.heap.size w w4) := below_step HB3.out hb
  have HBP4 : Hid (w4.heap[w.heap.size]? = some (boxP p)) := stepH HBP3.out hb
  have HBX4 : Hid (w4.heap[w.heap.size + 1]? = some zeroM) := stepH HBX3.out hb
  clear hb HB3 HBP3 HBX3
  have cp4 : w4.cell? ⟨w.heap.size, 0, none⟩ = some (.string p) := blk_cell HBP4.out 0
  have x0_4 : w4.cell? ⟨w.heap.size + 1, 0, none⟩ = some (.string ⟨#[]⟩) := blk_cell HBX4.out 0
  have f0_4 := blk_frozen HBX4.out 0
  have x1_4 : w4.cell? ⟨w.heap.size + 1, 1, none⟩ = some (.int .i64 0) := blk_cell HBX4.out 1
  have f1_4 := blk_frozen HBX4.out 1
  have x2_4 : w4.cell? ⟨w.heap.size + 1, 2, none⟩ = some (.int .i64 0) := blk_cell HBX4.out 2
  have f2_4 := blk_frozen HBX4.out 2
  have x3_4 : w4.cell? ⟨w.heap.size + 1, 3, none⟩ = some (.int .i64 0) := blk_cell HBX4.out 3
  have f3_4 := blk_frozen HBX4.out 3
  have a0_4 : w4.cell? _ = _ := (HB4.out.cell (World.block_lt_of_cell? w _ HX.out.1)).trans HX.out.1
  have a1_4 : w4.cell? _ = _ := (HB4.out.cell (World.block_lt_of_cell? w _ HX.out.2.1)).trans HX.out.2.1
  have a2_4 : w4.cell? _ = _ := (HB4.out.cell (World.block_lt_of_cell? w _ HX.out.2.2.1)).trans HX.out.2.2.1
  have a3_4 : w4.cell? _ = _ := (HB4.out.cell (World.block_lt_of_cell? w _ HX.out.2.2.2)).trans HX.out.2.2.2
  have b0_4 : w4.cell? _ = _ := (HB4.out.cell (World.block_lt_of_cell? w _ HY.out.1)).trans HY.out.1
  have b1_4 : w4.cell? _ = _ := (HB4.out.cell (World.block_lt_of_cell? w _ HY.out.2.1)).trans HY.out.2.1
  have b2_4 : w4.cell? _ = _ := (HB4.out.cell (World.block_lt_of_cell? w _ HY.out.2.2.1)).trans HY.out.2.2.1
  have b3_4 : w4.cell? _ = _ := (HB4.out.cell (World.block_lt_of_cell? w _ HY.out.2.2.2)).trans HY.out.2.2.2
  go_wp2_with fail
  refine (HM.out _).mono ?_
  rintro e w5 ⟨rfl, hb⟩
  clear cp4 x0_4 f0_4 x1_4 f1_4 x2_4 f2_4 x3_4 f3_4 a0_4 a1_4 a2_4 a3_4 b0_4 b1_4 b2_4 b3_4
  have HB5 : Hid (Below w.heap.size w w5) := below_step HB4.out hb
  have HBP5 : Hid (w5.heap[w.heap.size]? = some (boxP p)) := stepH HBP4.out hb
  have HBX5 : Hid (w5.heap[w.heap.size + 1]? = some zeroM) := stepH HBX4.out hb
  clear hb HB4 HBP4 HBX4
  have cp5 : w5.cell? ⟨w.heap.size, 0, none⟩ = some (.string p) := blk_cell HBP5.out 0
  have x0_5 : w5.cell? ⟨w.heap.size + 1, 0, none⟩ = some (.string ⟨#[]⟩) := blk_cell HBX5.out 0
  have f0_5 := blk_frozen HBX5.out 0
  have x1_5 : w5.cell? ⟨w.heap.size + 1, 1, none⟩ = some (.int .i64 0) := blk_cell HBX5.out 1
  have f1_5 := blk_frozen HBX5.out 1
  have x2_5 : w5.cell? ⟨w.heap.size + 1, 2, none⟩ = some (.int .i64 0) := blk_cell HBX5.out 2
  have f2_5 := blk_frozen HBX5.out 2
  have x3_5 : w5.cell? ⟨w.heap.size + 1, 3, none⟩ = some (.int .i64 0) := blk_cell HBX5.out 3
  have f3_5 := blk_frozen HBX5.out 3
  have a0_5 : w5.cell? _ = _ := (HB5.out.cell (World.block_lt_of_cell? w _ HX.out.1)).trans HX.out.1
  have a1_5 : w5.cell? _ = _ := (HB5.out.cell (World.block_lt_of_cell? w _ HX.out.2.1)).trans HX.out.2.1
  have a2_5 : w5.cell? _ = _ := (HB5.out.cell (World.block_lt_of_cell? w _ HX.out.2.2.1)).trans HX.out.2.2.1
  have a3_5 : w5.cell? _ = _ := (HB5.out.cell (World.block_lt_of_cell? w _ HX.out.2.2.2)).trans HX.out.2.2.2
  have b0_5 : w5.cell? _ = _ := (HB5.out.cell (World.block_lt_of_cell? w _ HY.out.1)).trans HY.out.1
  have b1_5 : w5.cell? _ = _ := (HB5.out.cell (World.block_lt_of_cell? w _ HY.out.2.1)).trans HY.out.2.1
  have b2_5 : w5.cell? _ = _ := (HB5.out.cell (World.block_lt_of_cell? w _ HY.out.2.2.1)).trans HY.out.2.2.1
  have b3_5 : w5.cell? _ = _ := (HB5.out.cell (World.block_lt_of_cell? w _ HY.out.2.2.2)).trans HY.out.2.2.2
  go_wp2_with fail
  refine (HBU.out _ _ HBP5.out HB5.out).mono ?_
  rintro e w6 ⟨rfl, hb⟩
  clear cp5 x0_5 f0_5 x1_5 f1_5 x2_5 f2_5 x3_5 f3_5 a0_5 a1_5 a2_5 a3_5 b0_5 b1_5 b2_5 b3_5
  have HB6 : Hid (Below w.heap.size w w6) := below_step HB5.out hb
  have HBP6 : Hid (w6.heap[w.heap.size]? = some (boxP p)) := stepH HBP5.out hb
  have HBX6 : Hid (w6.heap[w.heap.size + 1]? = some zeroM) := stepH HBX5.out hb
  clear hb HB5 HBP5 HBX5
  have cp6 : w6.cell? ⟨w.heap.size, 0, none⟩ = some (.string p) := blk_cell HBP6.out 0
  have x0_6 : w6.cell? ⟨w.heap.size + 1, 0, none⟩ = some (.string ⟨#[]⟩) := blk_cell HBX6.out 0
  have f0_6 := blk_frozen HBX6.out 0
  have x1_6 : w6.cell? ⟨w.heap.size + 1, 1, none⟩ = some (.int .i64 0) := blk_cell HBX6.out 1
  have f1_6 := blk_frozen HBX6.out 1
  have x2_6 : w6.cell? ⟨w.heap.size + 1, 2, none⟩ = some (.int .i64 0) := blk_cell HBX6.out 2
  have f2_6 := blk_frozen HBX6.out 2
  have x3_6 : w6.cell? ⟨w.heap.size + 1, 3, none⟩ = some (.int .i64 0) := blk_cell HBX6.out 3
  have f3_6 := blk_frozen HBX6.out 3
  have a0_6 : w6.cell? _ = _ := (HB6.out.cell (World.block_lt_of_cell? w _ HX.out.1)).trans HX.out.1
  have a1_6 : w6.cell? _ = _ := (HB6.out.cell (World.block_lt_of_cell? w _ HX.out.2.1)).trans HX.out.2.1
  have a2_6 : w6.cell? _ = _ := (HB6.out.cell (World.block_lt_of_cell? w _ HX.out.2.2.1)).trans HX.out.2.2.1
  have a3_6 : w6.cell? _ = _ := (HB6.out.cell (World.block_lt_of_cell? w _ HX.out.2.2.2)).trans HX.out.2.2.2
  have b0_6 : w6.cell? _ = _ := (HB6.out.cell (World.block_lt_of_cell? w _ HY.out.1)).trans HY.out.1
  have b1_6 : w6.cell? _ = _ := (HB6.out.cell (World.block_lt_of_cell? w _ HY.out.2.1)).trans HY.out.2.1
  have b2_6 : w6.cell? _ = _ := (HB6.out.cell (World.block_lt_of_cell? w _ HY.out.2.2.1)).trans HY.out.2.2.1
  have b3_6 : w6.cell? _ = _ := (HB6.out.cell (World.block_lt_of_cell? w _ HY.out.2.2.2)).trans HY.out.2.2.2
  go_wp2_with fail
  refine (HOF.out _ HB6.out).mono ?_
  rintro e w7 ⟨rfl, hb⟩
  clear cp6 x0_6 f0_6 x1_6 f1_6 x2_6 f2_6 x3_6 f3_6 a0_6 a1_6 a2_6 a3_6 b0_6 b1_6 b2_6 b3_6
  have HB7 : Hid (Below w.heap.size w w7) := below_step HB6.out hb
  have HBP7 : Hid (w7.heap[w.heap.size]? = some (boxP p)) := stepH HBP6.out hb
  have HBX7 : Hid (w7.heap[w.heap.size + 1]? = some zeroM) := stepH HBX6.out hb
  clear hb HB6 HBP6 HBX6
  have cp7 : w7.cell? ⟨w.heap.size, 0, none⟩ = some (.string p) := blk_cell HBP7.out 0
  have x0_7 : w7.cell? ⟨w.heap.size + 1, 0, none⟩ = some (.string ⟨#[]⟩) := blk_cell HBX7.out 0
  have f0_7 := blk_frozen HBX7.out 0
  have x1_7 : w7.cell? ⟨w.heap.size + 1, 1, none⟩ = some (.int .i64 0) := blk_cell HBX7.out 1
  have f1_7 := blk_frozen HBX7.out 1
  have x2_7 : w7.cell? ⟨w.heap.size + 1, 2, none⟩ = some (.int .i64 0) := blk_cell HBX7.out 2
  have f2_7 := blk_frozen HBX7.out 2
  have x3_7 : w7.cell? ⟨w.heap.size + 1, 3, none⟩ = some (.int .i64 0) := blk_cell HBX7.out 3
  have f3_7 := blk_frozen HBX7.out 3
  have a0_7 : w7.cell? _ = _ := (HB7.out.cell (World.block_lt_of_cell? w _ HX.out.1)).trans HX.out.1
  have a1_7 : w7.cell? _ = _ := (HB7.out.cell (World.block_lt_of_cell? w _ HX.out.2.1)).trans HX.out.2.1
  have a2_7 : w7.cell? _ = _ := (HB7.out.cell (World.block_lt_of_cell? w _ HX.out.2.2.1)).trans HX.out.2.2.1
  have a3_7 : w7.cell? _ = _ := (HB7.out.cell (World.block_lt_of_cell? w _ HX.out.2.2.2)).trans HX.out.2.2.2
  have b0_7 : w7.cell? _ = _ := (HB7.out.cell (World.block_lt_of_cell? w _ HY.out.1)).trans HY.out.1
  have b1_7 : w7.cell? _ = _ := (HB7.out.cell (World.block_lt_of_cell? w _ HY.out.2.1)).trans HY.out.2.1
  have b2_7 : w7.cell? _ = _ := (HB7.out.cell (World.block_lt_of_cell? w _ HY.out.2.2.1)).trans HY.out.2.2.1
  have b3_7 : w7.cell? _ = _ := (HB7.out.cell (World.block_lt_of_cell? w _ HY.out.2.2.2)).trans HY.out.2.2.2
  have g0 := blk_lt HBP7.out
  have g1 := blk_lt HBX7.out
  go_wp2_with fail
  refine bodyPost_ret (results_list (rs := [.tmp 6, .cell 7 27, .tmp 8]) rfl (by simp) (.tmp (.cell (w.heap.size + 1) 27 _ (0, 0) _ rfl (setXa HBX7.out _ _ _ _ _) Try.underlying27 rfl (by kernel_rfl) (.tmp .nil)))) rfl ?_
  refine ⟨_, rfl, Kd.V_mono (Kd.V_below HV.out ?_) (fun _ hk => .inl hk), ?_⟩
  all_goals repeat (first | exact HB7.out | refine below_alloc ?_ _ | refine Below.drew ?_ | refine Below.setCell ?_ (Nat.le_succ _) _)

set_option maxHeartbeats 8000000 in
set_option maxRecDepth 100000 in
theorem begin_busy_C (P0 : Nat → Prop) (A : Option Addr) (c : Nat) (l : List S27) (p : ByteArray) (d : Int) (j : Nat) (w : World) (hv : Kd.V k27 27 w w.heap.size P0 (.slice A l.length c) l) (hr : Kd.C k27 w A l.length l) (hc : l.length ≤ c)
    (h1 : mounts_Right.f (l.length + 10) l = some true) (h2 : path_Right.f p = some true) (h3 : mounts_group.f d = some true) (h32 : l.length ≤ 32) (hall : l.all (inOk p) = true) (hof : mounts_Of.f (kOf l) l p = some (j : Int)) (hj : j < l.length) (ho : own_ p l = true) (hm : movB (rd_T27 l (at_ p l : Nat)) = true) (hq : ((rd_T27 l (at_ p l : Nat)).f3 == d) = false) (hbu : l.any (busyB p) = true)  :
    Calls Try.prog 12 #[.slice A l.length c, .string p, .int .i64 d] w (Post w P0 l ⟨#[]⟩ 0 0 0 131) := by
  have HR := Lib.hid (fun W (hW : Below w.heap.size w W) => mounts_Right.calls (l.length + 10) A c l true W (Kd.C_below hr hW) hc h1)
  have HP := Lib.hid (fun W => path_Right.calls p true W h2)
  have HG := Lib.hid (fun W => (mounts_group.calls d true W h3).mono (fun e w' (h : _ ∧ _) => And.intro h.1 h.2.below))
  have HF := Lib.hid (fun W (hW : Below w.heap.size w W) => find_calls A c l p W (Kd.C_below hr hW) (by omega))
  have HBU := Lib.hid (fun W g (hg : W.heap[g]? = some (.cells #[.string p] 9 (0, 0))) (hW : Below w.heap.size w W) => IMount.contains_calls 28 #[.pointer (some ⟨g, 0, none⟩)] (enters_of Try.func28 (by kernel_rfl) rfl) (busyB p) A c l W (busy_pred p g l W hall hg) (Kd.C_below hr hW) (by omega))
  have HOF := Lib.hid (fun W (hW : Below w.heap.size w W) => mounts_Of.calls (kOf l) A c l p (j : Int) W (Kd.C_below hr hW) hc hof)
  obtain ⟨ad, ea, hy0, hy1, hy2, hy3⟩ := at_T27 hr (j : Nat) (by omega) (by omega)
  simp only [Int.toNat_natCast] at hy0 hy1 hy2 hy3
  have HV := Lib.hid hv
  rw [ho] at HF
  rw [hbu] at HBU
  have hlt : at_ p l < l.length := by
    have : (decide (at_ p l < l.length) && decide (cmpP p (rd_T27 l (at_ p l : Nat)) = 0)) = true := ho
    simp at this
    exact this.1
  obtain ⟨ad2, ea2, hx0, hx1, hx2, hx3⟩ := at_T27 hr (at_ p l : Nat) (by omega) (by omega)
  simp only [Int.toNat_natCast] at hx0 hx1 hx2 hx3
  obtain rfl : ad = ad2 := Option.some.inj (ea.symm.trans ea2)
  have HLE := Lib.hid (at_le p l)
  obtain ⟨i, hi⟩ : ∃ i, at_ p l = i := ⟨_, rfl⟩
  rw [hi] at HF HLE hx0 hx1 hx2 hx3 hlt hm hq
  (try rw [hi])
  obtain ⟨x, hxx⟩ : ∃ x, rd_T27 l (i : Nat) = x := ⟨_, rfl⟩
  rw [hxx] at hx0 hx1 hx2 hx3 hm hq
  have HX := Lib.hid (And.intro hx0 (And.intro hx1 (And.intro hx2 hx3)))
  obtain ⟨mv, hmv⟩ : ∃ mv, movB x = mv := ⟨_, rfl⟩
  have HM := Lib.hid (fun W => moves_is x mv hmv W)
  rw [hmv] at hm
  obtain ⟨y, hyy⟩ : ∃ y, rd_T27 l (j : Nat) = y := ⟨_, rfl⟩
  rw [hyy] at hy0 hy1 hy2 hy3
  (try rw [hyy])
  have HY := Lib.hid (And.intro hy0 (And.intro hy1 (And.intro hy2 hy3)))
  obtain ⟨n, hn⟩ : ∃ n, l.length = n := ⟨_, rfl⟩
  have HN := Lib.hid hn
  rw [hn] at HR HF HBU HOF HV hj h32 hlt ⊢
  have hjz : (j : Int) < (n : Int) := by omega
  clear hr hc h1 h2 h3 ho hv hy0 hy1 hy2 hy3 hi hyy hof hall hbu hx0 hx1 hx2 hx3 hxx hmv ea2
  cases ea
  
  have hlz : (i : Int) < (n : Int) := by omega
  
  subst hm
  go_enter Try.func12, Try.ntmps12
  go_wp2_with fail
  refine (HR.out _ (by repeat (first | exact Below.refl _ _ | apply below_alloc))).mono ?_
  rintro e w1 ⟨rfl, hb1⟩
  obtain ⟨hB, hP, hX⟩ := start1 hb1
  have HB1 := Lib.hid hB
  have HBP1 : Hid (w1.heap[w.heap.size]? = some (boxP p)) := hP
  have HBX1 : Hid (w1.heap[w.heap.size + 1]? = some zeroM) := hX
  clear hb1 hB hP hX
  have cp1 : w1.cell? ⟨w.heap.size, 0, none⟩ = some (.string p) := blk_cell HBP1.out 0
  have x0_1 : w1.cell? ⟨w.heap.size + 1, 0, none⟩ = some (.string ⟨#[]⟩) := blk_cell HBX1.out 0
  have f0_1 := blk_frozen HBX1.out 0
  have x1_1 : w1.cell? ⟨w.heap.size + 1, 1, none⟩ = some (.int .i64 0) := blk_cell HBX1.out 1
  have f1_1 := blk_frozen HBX1.out 1
  have x2_1 : w1.cell? ⟨w.heap.size + 1, 2, none⟩ = some (.int .i64 0) := blk_cell HBX1.out 2
  have f2_1 := blk_frozen HBX1.out 2
  have x3_1 : w1.cell? ⟨w.heap.size + 1, 3, none⟩ = some (.int .i64 0) := blk_cell HBX1.out 3
  have f3_1 := blk_frozen HBX1.out 3
  have a0_1 : w1.cell? _ = _ := (HB1.out.cell (World.block_lt_of_cell? w _ HX.out.1)).trans HX.out.1
  have a1_1 : w1.cell? _ = _ := (HB1.out.cell (World.block_lt_of_cell? w _ HX.out.2.1)).trans HX.out.2.1
  have a2_1 : w1.cell? _ = _ := (HB1.out.cell (World.block_lt_of_cell? w _ HX.out.2.2.1)).trans HX.out.2.2.1
  have a3_1 : w1.cell? _ = _ := (HB1.out.cell (World.block_lt_of_cell? w _ HX.out.2.2.2)).trans HX.out.2.2.2
  have b0_1 : w1.cell? _ = _ := (HB1.out.cell (World.block_lt_of_cell? w _ HY.out.1)).trans HY.out.1
  have b1_1 : w1.cell? _ = _ := (HB1.out.cell (World.block_lt_of_cell? w _ HY.out.2.1)).trans HY.out.2.1
  have b2_1 : w1.cell? _ = _ := (HB1.out.cell (World.block_lt_of_cell? w _ HY.out.2.2.1)).trans HY.out.2.2.1
  have b3_1 : w1.cell? _ = _ := (HB1.out.cell (World.block_lt_of_cell? w _ HY.out.2.2.2)).trans HY.out.2.2.2
  go_wp2_with fail
  refine (HP.out _).mono ?_
  rintro e w2 ⟨rfl, hb⟩
  clear cp1 x0_1 f0_1 x1_1 f1_1 x2_1 f2_1 x3_1 f3_1 a0_1 a1_1 a2_1 a3_1 b0_1 b1_1 b2_1 b3_1
  have HB2 : Hid (Below w.heap.size w w2) := below_step HB1.out hb
  have HBP2 : Hid (w2.heap[w.heap.size]? = some (boxP p)) := stepH HBP1.out hb
  have HBX2 : Hid (w2.heap[w.heap.size + 1]? = some zeroM) := stepH HBX1.out hb
  clear hb HB1 HBP1 HBX1
  have cp2 : w2.cell? ⟨w.heap.size, 0, none⟩ = some (.string p) := blk_cell HBP2.out 0
  have x0_2 : w2.cell? ⟨w.heap.size + 1, 0, none⟩ = some (.string ⟨#[]⟩) := blk_cell HBX2.out 0
  have f0_2 := blk_frozen HBX2.out 0
  have x1_2 : w2.cell? ⟨w.heap.size + 1, 1, none⟩ = some (.int .i64 0) := blk_cell HBX2.out 1
  have f1_2 := blk_frozen HBX2.out 1
  have x2_2 : w2.cell? ⟨w.heap.size + 1, 2, none⟩ = some (.int .i64 0) := blk_cell HBX2.out 2
  have f2_2 := blk_frozen HBX2.out 2
  have x3_2 : w2.cell? ⟨w.heap.size + 1, 3, none⟩ = some (.int .i64 0) := blk_cell HBX2.out 3
  have f3_2 := blk_frozen HBX2.out 3
  have a0_2 : w2.cell? _ = _ := (HB2.out.cell (World.block_lt_of_cell? w _ HX.out.1)).trans HX.out.1
  have a1_2 : w2.cell? _ = _ := (HB2.out.cell (World.block_lt_of_cell? w _ HX.out.2.1)).trans HX.out.2.1
  have a2_2 : w2.cell? _ = _ := (HB2.out.cell (World.block_lt_of_cell? w _ HX.out.2.2.1)).trans HX.out.2.2.1
  have a3_2 : w2.cell? _ = _ := (HB2.out.cell (World.block_lt_of_cell? w _ HX.out.2.2.2)).trans HX.out.2.2.2
  have b0_2 : w2.cell? _ = _ := (HB2.out.cell (World.block_lt_of_cell? w _ HY.out.1)).trans HY.out.1
  have b1_2 : w2.cell? _ = _ := (HB2.out.cell (World.block_lt_of_cell? w _ HY.out.2.1)).trans HY.out.2.1
  have b2_2 : w2.cell? _ = _ := (HB2.out.cell (World.block_lt_of_cell? w _ HY.out.2.2.1)).trans HY.out.2.2.1
  have b3_2 : w2.cell? _ = _ := (HB2.out.cell (World.block_lt_of_cell? w _ HY.out.2.2.2)).trans HY.out.2.2.2
  go_wp2_with fail
  refine (HG.out _).mono ?_
  rintro e w3 ⟨rfl, hb⟩
  clear cp2 x0_2 f0_2 x1_2 f1_2 x2_2 f2_2 x3_2 f3_2 a0_2 a1_2 a2_2 a3_2 b0_2 b1_2 b2_2 b3_2
  have HB3 : Hid (Below w.heap.size w w3) := below_step HB2.out hb
  have HBP3 : Hid (w3.heap[w.heap.size]? = some (boxP p)) := stepH HBP2.out hb
  have HBX3 : Hid (w3.heap[w.heap.size + 1]? = some zeroM) := stepH HBX2.out hb
  clear hb HB2 HBP2 HBX2
  have cp3 : w3.cell? ⟨w.heap.size, 0, none⟩ = some (.string p) := blk_cell HBP3.out 0
  have x0_3 : w3.cell? ⟨w.heap.size + 1, 0, none⟩ = some (.string ⟨#[]⟩) := blk_cell HBX3.out 0
  have f0_3 := blk_frozen HBX3.out 0
  have x1_3 : w3.cell? ⟨w.heap.size + 1, 1, none⟩ = some (.int .i64 0) := blk_cell HBX3.out 1
  have f1_3 := blk_frozen HBX3.out 1
  have x2_3 : w3.cell? ⟨w.heap.size + 1, 2, none⟩ = some (.int .i64 0) := blk_cell HBX3.out 2
  have f2_3 := blk_frozen HBX3.out 2
  have x3_3 : w3.cell? ⟨w.heap.size + 1, 3, none⟩ = some (.int .i64 0) := blk_cell HBX3.out 3
  have f3_3 := blk_frozen HBX3.out 3
  have a0_3 : w3.cell? _ = _ := (HB3.out.cell (World.block_lt_of_cell? w _ HX.out.1)).trans HX.out.1
  have a1_3 : w3.cell? _ = _ := (HB3.out.cell (World.block_lt_of_cell? w _ HX.out.2.1)).trans HX.out.2.1
  have a2_3 : w3.cell? _ = _ := (HB3.out.cell (World.block_lt_of_cell? w _ HX.out.2.2.1)).trans HX.out.2.2.1
  have a3_3 : w3.cell? _ = _ := (HB3.out.cell (World.block_lt_of_cell? w _ HX.out.2.2.2)).trans HX.out.2.2.2
  have b0_3 : w3.cell? _ = _ := (HB3.out.cell (World.block_lt_of_cell? w _ HY.out.1)).trans HY.out.1
  have b1_3 : w3.cell? _ = _ := (HB3.out.cell (World.block_lt_of_cell? w _ HY.out.2.1)).trans HY.out.2.1
  have b2_3 : w3.cell? _ = _ := (HB3.out.cell (World.block_lt_of_cell? w _ HY.out.2.2.1)).trans HY.out.2.2.1
  have b3_3 : w3.cell? _ = _ := (HB3.out.cell (World.block_lt_of_cell? w _ HY.out.2.2.2)).trans HY.out.2.2.2
  go_wp2_with fail
  refine (HF.out _ HB3.out).mono ?_
  rintro e w4 ⟨rfl, hb⟩
  clear cp3 x0_3 f0_3 x1_3 f1_3 x2_3 f2_3 x3_3 f3_3 a0_3 a1_3 a2_3 a3_3 b0_3 b1_3 b2_3 b3_3
  have HB4 : Hid (Below w.heap.size w w4) := below_step HB3.out hb
  have HBP4 : Hid (w4.heap[w.heap.size]? = some (boxP p)) := stepH HBP3.out hb
  have HBX4 : Hid (w4.heap[w.heap.size + 1]? = some zeroM) := stepH HBX3.out hb
  clear hb HB3 HBP3 HBX3
  have cp4 : w4.cell? ⟨w.heap.size, 0, none⟩ = some (.string p) := blk_cell HBP4.out 0
  have x0_4 : w4.cell? ⟨w.heap.size + 1, 0, none⟩ = some (.string ⟨#[]⟩) := blk_cell HBX4.out 0
  have f0_4 := blk_frozen HBX4.out 0
  have x1_4 : w4.cell? ⟨w.heap.size + 1, 1, none⟩ = some (.int .i64 0) := blk_cell HBX4.out 1
  have f1_4 := blk_frozen HBX4.out 1
  have x2_4 : w4.cell? ⟨w.heap.size + 1, 2, none⟩ = some (.int .i64 0) := blk_cell HBX4.out 2
  have f2_4 := blk_frozen HBX4.out 2
  have x3_4 : w4.cell? ⟨w.heap.size + 1, 3, none⟩ = some (.int .i64 0) := blk_cell HBX4.out 3
  have f3_4 := blk_frozen HBX4.out 3
  have a0_4 : w4.cell? _ = _ := (HB4.out.cell (World.block_lt_of_cell? w _ HX.out.1)).trans HX.out.1
  have a1_4 : w4.cell? _ = _ := (HB4.out.cell (World.block_lt_of_cell? w _ HX.out.2.1)).trans HX.out.2.1
  have a2_4 : w4.cell? _ = _ := (HB4.out.cell (World.block_lt_of_cell? w _ HX.out.2.2.1)).trans HX.out.2.2.1
  have a3_4 : w4.cell? _ = _ := (HB4.out.cell (World.block_lt_of_cell? w _ HX.out.2.2.2)).trans HX.out.2.2.2
  have b0_4 : w4.cell? _ = _ := (HB4.out.cell (World.block_lt_of_cell? w _ HY.out.1)).trans HY.out.1
  have b1_4 : w4.cell? _ = _ := (HB4.out.cell (World.block_lt_of_cell? w _ HY.out.2.1)).trans HY.out.2.1
  have b2_4 : w4.cell? _ = _ := (HB4.out.cell (World.block_lt_of_cell? w _ HY.out.2.2.1)).trans HY.out.2.2.1
  have b3_4 : w4.cell? _ = _ := (HB4.out.cell (World.block_lt_of_cell? w _ HY.out.2.2.2)).trans HY.out.2.2.2
  go_wp2_with fail
  refine (HM.out _).mono ?_
  rintro e w5 ⟨rfl, hb⟩
  clear cp4 x0_4 f0_4 x1_4 f1_4 x2_4 f2_4 x3_4 f3_4 a0_4 a1_4 a2_4 a3_4 b0_4 b1_4 b2_4 b3_4
  have HB5 : Hid (Below w.heap.size w w5) := below_step HB4.out hb
  have HBP5 : Hid (w5.heap[w.heap.size]? = some (boxP p)) := stepH HBP4.out hb
  have HBX5 : Hid (w5.heap[w.heap.size + 1]? = some zeroM) := stepH HBX4.out hb
  clear hb HB4 HBP4 HBX4
  have cp5 : w5.cell? ⟨w.heap.size, 0, none⟩ = some (.string p) := blk_cell HBP5.out 0
  have x0_5 : w5.cell? ⟨w.heap.size + 1, 0, none⟩ = some (.string ⟨#[]⟩) := blk_cell HBX5.out 0
  have f0_5 := blk_frozen HBX5.out 0
  have x1_5 : w5.cell? ⟨w.heap.size + 1, 1, none⟩ = some (.int .i64 0) := blk_cell HBX5.out 1
  have f1_5 := blk_frozen HBX5.out 1
  have x2_5 : w5.cell? ⟨w.heap.size + 1, 2, none⟩ = some (.int .i64 0) := blk_cell HBX5.out 2
  have f2_5 := blk_frozen HBX5.out 2
  have x3_5 : w5.cell? ⟨w.heap.size + 1, 3, none⟩ = some (.int .i64 0) := blk_cell HBX5.out 3
  have f3_5 := blk_frozen HBX5.out 3
  have a0_5 : w5.cell? _ = _ := (HB5.out.cell (World.block_lt_of_cell? w _ HX.out.1)).trans HX.out.1
  have a1_5 : w5.cell? _ = _ := (HB5.out.cell (World.block_lt_of_cell? w _ HX.out.2.1)).trans HX.out.2.1
  have a2_5 : w5.cell? _ = _ := (HB5.out.cell (World.block_lt_of_cell? w _ HX.out.2.2.1)).trans HX.out.2.2.1
  have a3_5 : w5.cell? _ = _ := (HB5.out.cell (World.block_lt_of_cell? w _ HX.out.2.2.2)).trans HX.out.2.2.2
  have b0_5 : w5.cell? _ = _ := (HB5.out.cell (World.block_lt_of_cell? w _ HY.out.1)).trans HY.out.1
  have b1_5 : w5.cell? _ = _ := (HB5.out.cell (World.block_lt_of_cell? w _ HY.out.2.1)).trans HY.out.2.1
  have b2_5 : w5.cell? _ = _ := (HB5.out.cell (World.block_lt_of_cell? w _ HY.out.2.2.1)).trans HY.out.2.2.1
  have b3_5 : w5.cell? _ = _ := (HB5.out.cell (World.block_lt_of_cell? w _ HY.out.2.2.2)).trans HY.out.2.2.2
  go_wp2_with fail
  refine (HBU.out _ _ HBP5.out HB5.out).mono ?_
  rintro e w6 ⟨rfl, hb⟩
  clear cp5 x0_5 f0_5 x1_5 f1_5 x2_5 f2_5 x3_5 f3_5 a0_5 a1_5 a2_5 a3_5 b0_5 b1_5 b2_5 b3_5
  have HB6 : Hid (Below w.heap.size w w6) := below_step HB5.out hb
  have HBP6 : Hid (w6.heap[w.heap.size]? = some (boxP p)) := stepH HBP5.out hb
  have HBX6 : Hid (w6.heap[w.heap.size + 1]? = some zeroM) := stepH HBX5.out hb
  clear hb HB5 HBP5 HBX5
  have cp6 : w6.cell? ⟨w.heap.size, 0, none⟩ = some (.string p) := blk_cell HBP6.out 0
  have x0_6 : w6.cell? ⟨w.heap.size + 1, 0, none⟩ = some (.string ⟨#[]⟩) := blk_cell HBX6.out 0
  have f0_6 := blk_frozen HBX6.out 0
  have x1_6 : w6.cell? ⟨w.heap.size + 1, 1, none⟩ = some (.int .i64 0) := blk_cell HBX6.out 1
  have f1_6 := blk_frozen HBX6.out 1
  have x2_6 : w6.cell? ⟨w.heap.size + 1, 2, none⟩ = some (.int .i64 0) := blk_cell HBX6.out 2
  have f2_6 := blk_frozen HBX6.out 2
  have x3_6 : w6.cell? ⟨w.heap.size + 1, 3, none⟩ = some (.int .i64 0) := blk_cell HBX6.out 3
  have f3_6 := blk_frozen HBX6.out 3
  have a0_6 : w6.cell? _ = _ := (HB6.out.cell (World.block_lt_of_cell? w _ HX.out.1)).trans HX.out.1
  have a1_6 : w6.cell? _ = _ := (HB6.out.cell (World.block_lt_of_cell? w _ HX.out.2.1)).trans HX.out.2.1
  have a2_6 : w6.cell? _ = _ := (HB6.out.cell (World.block_lt_of_cell? w _ HX.out.2.2.1)).trans HX.out.2.2.1
  have a3_6 : w6.cell? _ = _ := (HB6.out.cell (World.block_lt_of_cell? w _ HX.out.2.2.2)).trans HX.out.2.2.2
  have b0_6 : w6.cell? _ = _ := (HB6.out.cell (World.block_lt_of_cell? w _ HY.out.1)).trans HY.out.1
  have b1_6 : w6.cell? _ = _ := (HB6.out.cell (World.block_lt_of_cell? w _ HY.out.2.1)).trans HY.out.2.1
  have b2_6 : w6.cell? _ = _ := (HB6.out.cell (World.block_lt_of_cell? w _ HY.out.2.2.1)).trans HY.out.2.2.1
  have b3_6 : w6.cell? _ = _ := (HB6.out.cell (World.block_lt_of_cell? w _ HY.out.2.2.2)).trans HY.out.2.2.2
  go_wp2_with fail
  refine (HOF.out _ HB6.out).mono ?_
  rintro e w7 ⟨rfl, hb⟩
  clear cp6 x0_6 f0_6 x1_6 f1_6 x2_6 f2_6 x3_6 f3_6 a0_6 a1_6 a2_6 a3_6 b0_6 b1_6 b2_6 b3_6
  have HB7 : Hid (Below w.heap.size w w7) := below_step HB6.out hb
  have HBP7 : Hid (w7.heap[w.heap.size]? = some (boxP p)) := stepH HBP6.out hb
  have HBX7 : Hid (w7.heap[w.heap.size + 1]? = some zeroM) := stepH HBX6.out hb
  clear hb HB6 HBP6 HBX6
  have cp7 : w7.cell? ⟨w.heap.size, 0, none⟩ = some (.string p) := blk_cell HBP7.out 0
  have x0_7 : w7.cell? ⟨w.heap.size + 1, 0, none⟩ = some (.string ⟨#[]⟩) := blk_cell HBX7.out 0
  have f0_7 := blk_frozen HBX7.out 0
  have x1_7 : w7.cell? ⟨w.heap.size + 1, 1, none⟩ = some (.int .i64 0) := blk_cell HBX7.out 1
  have f1_7 := blk_frozen HBX7.out 1
  have x2_7 : w7.cell? ⟨w.heap.size + 1, 2, none⟩ = some (.int .i64 0) := blk_cell HBX7.out 2
  have f2_7 := blk_frozen HBX7.out 2
  have x3_7 : w7.cell? ⟨w.heap.size + 1, 3, none⟩ = some (.int .i64 0) := blk_cell HBX7.out 3
  have f3_7 := blk_frozen HBX7.out 3
  have a0_7 : w7.cell? _ = _ := (HB7.out.cell (World.block_lt_of_cell? w _ HX.out.1)).trans HX.out.1
  have a1_7 : w7.cell? _ = _ := (HB7.out.cell (World.block_lt_of_cell? w _ HX.out.2.1)).trans HX.out.2.1
  have a2_7 : w7.cell? _ = _ := (HB7.out.cell (World.block_lt_of_cell? w _ HX.out.2.2.1)).trans HX.out.2.2.1
  have a3_7 : w7.cell? _ = _ := (HB7.out.cell (World.block_lt_of_cell? w _ HX.out.2.2.2)).trans HX.out.2.2.2
  have b0_7 : w7.cell? _ = _ := (HB7.out.cell (World.block_lt_of_cell? w _ HY.out.1)).trans HY.out.1
  have b1_7 : w7.cell? _ = _ := (HB7.out.cell (World.block_lt_of_cell? w _ HY.out.2.1)).trans HY.out.2.1
  have b2_7 : w7.cell? _ = _ := (HB7.out.cell (World.block_lt_of_cell? w _ HY.out.2.2.1)).trans HY.out.2.2.1
  have b3_7 : w7.cell? _ = _ := (HB7.out.cell (World.block_lt_of_cell? w _ HY.out.2.2.2)).trans HY.out.2.2.2
  have g0 := blk_lt HBP7.out
  have g1 := blk_lt HBX7.out
  go_wp2_with fail
  refine bodyPost_ret (results_list (rs := [.tmp 6, .cell 7 27, .tmp 8]) rfl (by simp) (.tmp (.cell (w.heap.size + 1) 27 _ (0, 0) _ rfl (setXa HBX7.out _ _ _ _ _) Try.underlying27 rfl (by kernel_rfl) (.tmp .nil)))) rfl ?_
  refine ⟨_, rfl, Kd.V_mono (Kd.V_below HV.out ?_) (fun _ hk => .inl hk), ?_⟩
  all_goals repeat (first | exact HB7.out | refine below_alloc ?_ _ | refine Below.drew ?_ | refine Below.setCell ?_ (Nat.le_succ _) _)

set_option maxHeartbeats 8000000 in
set_option maxRecDepth 100000 in
theorem begin_there_C (P0 : Nat → Prop) (A : Option Addr) (c : Nat) (l : List S27) (p : ByteArray) (d : Int) (j : Nat) (w : World) (hv : Kd.V k27 27 w w.heap.size P0 (.slice A l.length c) l) (hr : Kd.C k27 w A l.length l) (hc : l.length ≤ c)
    (h1 : mounts_Right.f (l.length + 10) l = some true) (h2 : path_Right.f p = some true) (h3 : mounts_group.f d = some true) (h32 : l.length ≤ 32) (hall : l.all (inOk p) = true) (hof : mounts_Of.f (kOf l) l p = some (j : Int)) (hj : j < l.length) (ho : own_ p l = true) (hm : movB (rd_T27 l (at_ p l : Nat)) = true) (hq : ((rd_T27 l (at_ p l : Nat)).f3 == d) = false) (hbu : l.any (busyB p) = false) (hz : ((rd_T27 l (j : Nat)).f1 == d) = true) :
    Calls Try.prog 12 #[.slice A l.length c, .string p, .int .i64 d] w (Post w P0 l ⟨#[]⟩ 0 0 0 61) := by
  have HR := Lib.hid (fun W (hW : Below w.heap.size w W) => mounts_Right.calls (l.length + 10) A c l true W (Kd.C_below hr hW) hc h1)
  have HP := Lib.hid (fun W => path_Right.calls p true W h2)
  have HG := Lib.hid (fun W => (mounts_group.calls d true W h3).mono (fun e w' (h : _ ∧ _) => And.intro h.1 h.2.below))
  have HF := Lib.hid (fun W (hW : Below w.heap.size w W) => find_calls A c l p W (Kd.C_below hr hW) (by omega))
  have HBU := Lib.hid (fun W g (hg : W.heap[g]? = some (.cells #[.string p] 9 (0, 0))) (hW : Below w.heap.size w W) => IMount.contains_calls 28 #[.pointer (some ⟨g, 0, none⟩)] (enters_of Try.func28 (by kernel_rfl) rfl) (busyB p) A c l W (busy_pred p g l W hall hg) (Kd.C_below hr hW) (by omega))
  have HOF := Lib.hid (fun W (hW : Below w.heap.size w W) => mounts_Of.calls (kOf l) A c l p (j : Int) W (Kd.C_below hr hW) hc hof)
  obtain ⟨ad, ea, hy0, hy1, hy2, hy3⟩ := at_T27 hr (j : Nat) (by omega) (by omega)
  simp only [Int.toNat_natCast] at hy0 hy1 hy2 hy3
  have HV := Lib.hid hv
  rw [ho] at HF
  rw [hbu] at HBU
  have hlt : at_ p l < l.length := by
    have : (decide (at_ p l < l.length) && decide (cmpP p (rd_T27 l (at_ p l : Nat)) = 0)) = true := ho
    simp at this
    exact this.1
  obtain ⟨ad2, ea2, hx0, hx1, hx2, hx3⟩ := at_T27 hr (at_ p l : Nat) (by omega) (by omega)
  simp only [Int.toNat_natCast] at hx0 hx1 hx2 hx3
  obtain rfl : ad = ad2 := Option.some.inj (ea.symm.trans ea2)
  have HLE := Lib.hid (at_le p l)
  obtain ⟨i, hi⟩ : ∃ i, at_ p l = i := ⟨_, rfl⟩
  rw [hi] at HF HLE hx0 hx1 hx2 hx3 hlt hm hq
  (try rw [hi])
  obtain ⟨x, hxx⟩ : ∃ x, rd_T27 l (i : Nat) = x := ⟨_, rfl⟩
  rw [hxx] at hx0 hx1 hx2 hx3 hm hq
  have HX := Lib.hid (And.intro hx0 (And.intro hx1 (And.intro hx2 hx3)))
  obtain ⟨mv, hmv⟩ : ∃ mv, movB x = mv := ⟨_, rfl⟩
  have HM := Lib.hid (fun W => moves_is x mv hmv W)
  rw [hmv] at hm
  obtain ⟨y, hyy⟩ : ∃ y, rd_T27 l (j : Nat) = y := ⟨_, rfl⟩
  rw [hyy] at hy0 hy1 hy2 hy3 hz
  (try rw [hyy])
  have HY := Lib.hid (And.intro hy0 (And.intro hy1 (And.intro hy2 hy3)))
  obtain ⟨n, hn⟩ : ∃ n, l.length = n := ⟨_, rfl⟩
  have HN := Lib.hid hn
  rw [hn] at HR HF HBU HOF HV hj h32 hlt ⊢
  have hjz : (j : Int) < (n : Int) := by omega
  clear hr hc h1 h2 h3 ho hv hy0 hy1 hy2 hy3 hi hyy hof hall hbu hx0 hx1 hx2 hx3 hxx hmv ea2
  cases ea
  
  have hlz : (i : Int) < (n : Int) := by omega
  
  subst hm
  go_enter Try.func12, Try.ntmps12
  go_wp2_with fail
  refine (HR.out _ (by repeat (first | exact Below.refl _ _ | apply below_alloc))).mono ?_
  rintro e w1 ⟨rfl, hb1⟩
  obtain ⟨hB, hP, hX⟩ := start1 hb1
  have HB1 := Lib.hid hB
  have HBP1 : Hid (w1.heap[w.heap.size]? = some (boxP p)) := hP
  have HBX1 : Hid (w1.heap[w.heap.size + 1]? = some zeroM) := hX
  clear hb1 hB hP hX
  have cp1 : w1.cell? ⟨w.heap.size, 0, none⟩ = some (.string p) := blk_cell HBP1.out 0
  have x0_1 : w1.cell? ⟨w.heap.size + 1, 0, none⟩ = some (.string ⟨#[]⟩) := blk_cell HBX1.out 0
  have f0_1 := blk_frozen HBX1.out 0
  have x1_1 : w1.cell? ⟨w.heap.size + 1, 1, none⟩ = some (.int .i64 0) := blk_cell HBX1.out 1
  have f1_1 := blk_frozen HBX1.out 1
  have x2_1 : w1.cell? ⟨w.heap.size + 1, 2, none⟩ = some (.int .i64 0) := blk_cell HBX1.out 2
  have f2_1 := blk_frozen HBX1.out 2
  have x3_1 : w1.cell? ⟨w.heap.size + 1, 3, none⟩ = some (.int .i64 0) := blk_cell HBX1.out 3
  have f3_1 := blk_frozen HBX1.out 3
  have a0_1 : w1.cell? _ = _ := (HB1.out.cell (World.block_lt_of_cell? w _ HX.out.1)).trans HX.out.1
  have a1_1 : w1.cell? _ = _ := (HB1.out.cell (World.block_lt_of_cell? w _ HX.out.2.1)).trans HX.out.2.1
  have a2_1 : w1.cell? _ = _ := (HB1.out.cell (World.block_lt_of_cell? w _ HX.out.2.2.1)).trans HX.out.2.2.1
  have a3_1 : w1.cell? _ = _ := (HB1.out.cell (World.block_lt_of_cell? w _ HX.out.2.2.2)).trans HX.out.2.2.2
  have b0_1 : w1.cell? _ = _ := (HB1.out.cell (World.block_lt_of_cell? w _ HY.out.1)).trans HY.out.1
  have b1_1 : w1.cell? _ = _ := (HB1.out.cell (World.block_lt_of_cell? w _ HY.out.2.1)).trans HY.out.2.1
  have b2_1 : w1.cell? _ = _ := (HB1.out.cell (World.block_lt_of_cell? w _ HY.out.2.2.1)).trans HY.out.2.2.1
  have b3_1 : w1.cell? _ = _ := (HB1.out.cell (World.block_lt_of_cell? w _ HY.out.2.2.2)).trans HY.out.2.2.2
  go_wp2_with fail
  refine (HP.out _).mono ?_
  rintro e w2 ⟨rfl, hb⟩
  clear cp1 x0_1 f0_1 x1_1 f1_1 x2_1 f2_1 x3_1 f3_1 a0_1 a1_1 a2_1 a3_1 b0_1 b1_1 b2_1 b3_1
  have HB2 : Hid (Below w.heap.size w w2) := below_step HB1.out hb
  have HBP2 : Hid (w2.heap[w.heap.size]? = some (boxP p)) := stepH HBP1.out hb
  have HBX2 : Hid (w2.heap[w.heap.size + 1]? = some zeroM) := stepH HBX1.out hb
  clear hb HB1 HBP1 HBX1
  have cp2 : w2.cell? ⟨w.heap.size, 0, none⟩ = some (.string p) := blk_cell HBP2.out 0
  have x0_2 : w2.cell? ⟨w.heap.size + 1, 0, none⟩ = some (.string ⟨#[]⟩) := blk_cell HBX2.out 0
  have f0_2 := blk_frozen HBX2.out 0
  have x1_2 : w2.cell? ⟨w.heap.size + 1, 1, none⟩ = some (.int .i64 0) := blk_cell HBX2.out 1
  have f1_2 := blk_frozen HBX2.out 1
  have x2_2 : w2.cell? ⟨w.heap.size + 1, 2, none⟩ = some (.int .i64 0) := blk_cell HBX2.out 2
  have f2_2 := blk_frozen HBX2.out 2
  have x3_2 : w2.cell? ⟨w.heap.size + 1, 3, none⟩ = some (.int .i64 0) := blk_cell HBX2.out 3
  have f3_2 := blk_frozen HBX2.out 3
  have a0_2 : w2.cell? _ = _ := (HB2.out.cell (World.block_lt_of_cell? w _ HX.out.1)).trans HX.out.1
  have a1_2 : w2.cell? _ = _ := (HB2.out.cell (World.block_lt_of_cell? w _ HX.out.2.1)).trans HX.out.2.1
  have a2_2 : w2.cell? _ = _ := (HB2.out.cell (World.block_lt_of_cell? w _ HX.out.2.2.1)).trans HX.out.2.2.1
  have a3_2 : w2.cell? _ = _ := (HB2.out.cell (World.block_lt_of_cell? w _ HX.out.2.2.2)).trans HX.out.2.2.2
  have b0_2 : w2.cell? _ = _ := (HB2.out.cell (World.block_lt_of_cell? w _ HY.out.1)).trans HY.out.1
  have b1_2 : w2.cell? _ = _ := (HB2.out.cell (World.block_lt_of_cell? w _ HY.out.2.1)).trans HY.out.2.1
  have b2_2 : w2.cell? _ = _ := (HB2.out.cell (World.block_lt_of_cell? w _ HY.out.2.2.1)).trans HY.out.2.2.1
  have b3_2 : w2.cell? _ = _ := (HB2.out.cell (World.block_lt_of_cell? w _ HY.out.2.2.2)).trans HY.out.2.2.2
  go_wp2_with fail
  refine (HG.out _).mono ?_
  rintro e w3 ⟨rfl, hb⟩
  clear cp2 x0_2 f0_2 x1_2 f1_2 x2_2 f2_2 x3_2 f3_2 a0_2 a1_2 a2_2 a3_2 b0_2 b1_2 b2_2 b3_2
  have HB3 : Hid (Below w.heap.size w w3) := below_step HB2.out hb
  have HBP3 : Hid (w3.heap[w.heap.size]? = some (boxP p)) := stepH HBP2.out hb
  have HBX3 : Hid (w3.heap[w.heap.size + 1]? = some zeroM) := stepH HBX2.out hb
  clear hb HB2 HBP2 HBX2
  have cp3 : w3.cell? ⟨w.heap.size, 0, none⟩ = some (.string p) := blk_cell HBP3.out 0
  have x0_3 : w3.cell? ⟨w.heap.size + 1, 0, none⟩ = some (.string ⟨#[]⟩) := blk_cell HBX3.out 0
  have f0_3 := blk_frozen HBX3.out 0
  have x1_3 : w3.cell? ⟨w.heap.size + 1, 1, none⟩ = some (.int .i64 0) := blk_cell HBX3.out 1
  have f1_3 := blk_frozen HBX3.out 1
  have x2_3 : w3.cell? ⟨w.heap.size + 1, 2, none⟩ = some (.int .i64 0) := blk_cell HBX3.out 2
  have f2_3 := blk_frozen HBX3.out 2
  have x3_3 : w3.cell? ⟨w.heap.size + 1, 3, none⟩ = some (.int .i64 0) := blk_cell HBX3.out 3
  have f3_3 := blk_frozen HBX3.out 3
  have a0_3 : w3.cell? _ = _ := (HB3.out.cell (World.block_lt_of_cell? w _ HX.out.1)).trans HX.out.1
  have a1_3 : w3.cell? _ = _ := (HB3.out.cell (World.block_lt_of_cell? w _ HX.out.2.1)).trans HX.out.2.1
  have a2_3 : w3.cell? _ = _ := (HB3.out.cell (World.block_lt_of_cell? w _ HX.out.2.2.1)).trans HX.out.2.2.1
  have a3_3 : w3.cell? _ = _ := (HB3.out.cell (World.block_lt_of_cell? w _ HX.out.2.2.2)).trans HX.out.2.2.2
  have b0_3 : w3.cell? _ = _ := (HB3.out.cell (World.block_lt_of_cell? w _ HY.out.1)).trans HY.out.1
  have b1_3 : w3.cell? _ = _ := (HB3.out.cell (World.block_lt_of_cell? w _ HY.out.2.1)).trans HY.out.2.1
  have b2_3 : w3.cell? _ = _ := (HB3.out.cell (World.block_lt_of_cell? w _ HY.out.2.2.1)).trans HY.out.2.2.1
  have b3_3 : w3.cell? _ = _ := (HB3.out.cell (World.block_lt_of_cell? w _ HY.out.2.2.2)).trans HY.out.2.2.2
  go_wp2_with fail
  refine (HF.out _ HB3.out).mono ?_
  rintro e w4 ⟨rfl, hb⟩
  clear cp3 x0_3 f0_3 x1_3 f1_3 x2_3 f2_3 x3_3 f3_3 a0_3 a1_3 a2_3 a3_3 b0_3 b1_3 b2_3 b3_3
  have HB4 : Hid (Below w.heap.size w w4) := below_step HB3.out hb
  have HBP4 : Hid (w4.heap[w.heap.size]? = some (boxP p)) := stepH HBP3.out hb
  have HBX4 : Hid (w4.heap[w.heap.size + 1]? = some zeroM) := stepH HBX3.out hb
  clear hb HB3 HBP3 HBX3
  have cp4 : w4.cell? ⟨w.heap.size, 0, none⟩ = some (.string p) := blk_cell HBP4.out 0
  have x0_4 : w4.cell? ⟨w.heap.size + 1, 0, none⟩ = some (.string ⟨#[]⟩) := blk_cell HBX4.out 0
  have f0_4 := blk_frozen HBX4.out 0
  have x1_4 : w4.cell? ⟨w.heap.size + 1, 1, none⟩ = some (.int .i64 0) := blk_cell HBX4.out 1
  have f1_4 := blk_frozen HBX4.out 1
  have x2_4 : w4.cell? ⟨w.heap.size + 1, 2, none⟩ = some (.int .i64 0) := blk_cell HBX4.out 2
  have f2_4 := blk_frozen HBX4.out 2
  have x3_4 : w4.cell? ⟨w.heap.size + 1, 3, none⟩ = some (.int .i64 0) := blk_cell HBX4.out 3
  have f3_4 := blk_frozen HBX4.out 3
  have a0_4 : w4.cell? _ = _ := (HB4.out.cell (World.block_lt_of_cell? w _ HX.out.1)).trans HX.out.1
  have a1_4 : w4.cell? _ = _ := (HB4.out.cell (World.block_lt_of_cell? w _ HX.out.2.1)).trans HX.out.2.1
  have a2_4 : w4.cell? _ = _ := (HB4.out.cell (World.block_lt_of_cell? w _ HX.out.2.2.1)).trans HX.out.2.2.1
  have a3_4 : w4.cell? _ = _ := (HB4.out.cell (World.block_lt_of_cell? w _ HX.out.2.2.2)).trans HX.out.2.2.2
  have b0_4 : w4.cell? _ = _ := (HB4.out.cell (World.block_lt_of_cell? w _ HY.out.1)).trans HY.out.1
  have b1_4 : w4.cell? _ = _ := (HB4.out.cell (World.block_lt_of_cell? w _ HY.out.2.1)).trans HY.out.2.1
  have b2_4 : w4.cell? _ = _ := (HB4.out.cell (World.block_lt_of_cell? w _ HY.out.2.2.1)).trans HY.out.2.2.1
  have b3_4 : w4.cell? _ = _ := (HB4.out.cell (World.block_lt_of_cell? w _ HY.out.2.2.2)).trans HY.out.2.2.2
  go_wp2_with fail
  refine (HM.out _).mono ?_
  rintro e w5 ⟨rfl, hb⟩
  clear cp4 x0_4 f0_4 x1_4 f1_4 x2_4 f2_4 x3_4 f3_4 a0_4 a1_4 a2_4 a3_4 b0_4 b1_4 b2_4 b3_4
  have HB5 : Hid (Below w.heap.size w w5) := below_step HB4.out hb
  have HBP5 : Hid (w5.heap[w.heap.size]? = some (boxP p)) := stepH HBP4.out hb
  have HBX5 : Hid (w5.heap[w.heap.size + 1]? = some zeroM) := stepH HBX4.out hb
  clear hb HB4 HBP4 HBX4
  have cp5 : w5.cell? ⟨w.heap.size, 0, none⟩ = some (.string p) := blk_cell HBP5.out 0
  have x0_5 : w5.cell? ⟨w.heap.size + 1, 0, none⟩ = some (.string ⟨#[]⟩) := blk_cell HBX5.out 0
  have f0_5 := blk_frozen HBX5.out 0
  have x1_5 : w5.cell? ⟨w.heap.size + 1, 1, none⟩ = some (.int .i64 0) := blk_cell HBX5.out 1
  have f1_5 := blk_frozen HBX5.out 1
  have x2_5 : w5.cell? ⟨w.heap.size + 1, 2, none⟩ = some (.int .i64 0) := blk_cell HBX5.out 2
  have f2_5 := blk_frozen HBX5.out 2
  have x3_5 : w5.cell? ⟨w.heap.size + 1, 3, none⟩ = some (.int .i64 0) := blk_cell HBX5.out 3
  have f3_5 := blk_frozen HBX5.out 3
  have a0_5 : w5.cell? _ = _ := (HB5.out.cell (World.block_lt_of_cell? w _ HX.out.1)).trans HX.out.1
  have a1_5 : w5.cell? _ = _ := (HB5.out.cell (World.block_lt_of_cell? w _ HX.out.2.1)).trans HX.out.2.1
  have a2_5 : w5.cell? _ = _ := (HB5.out.cell (World.block_lt_of_cell? w _ HX.out.2.2.1)).trans HX.out.2.2.1
  have a3_5 : w5.cell? _ = _ := (HB5.out.cell (World.block_lt_of_cell? w _ HX.out.2.2.2)).trans HX.out.2.2.2
  have b0_5 : w5.cell? _ = _ := (HB5.out.cell (World.block_lt_of_cell? w _ HY.out.1)).trans HY.out.1
  have b1_5 : w5.cell? _ = _ := (HB5.out.cell (World.block_lt_of_cell? w _ HY.out.2.1)).trans HY.out.2.1
  have b2_5 : w5.cell? _ = _ := (HB5.out.cell (World.block_lt_of_cell? w _ HY.out.2.2.1)).trans HY.out.2.2.1
  have b3_5 : w5.cell? _ = _ := (HB5.out.cell (World.block_lt_of_cell? w _ HY.out.2.2.2)).trans HY.out.2.2.2
  go_wp2_with fail
  refine (HBU.out _ _ HBP5.out HB5.out).mono ?_
  rintro e w6 ⟨rfl, hb⟩
  clear cp5 x0_5 f0_5 x1_5 f1_5 x2_5 f2_5 x3_5 f3_5 a0_5 a1_5 a2_5 a3_5 b0_5 b1_5 b2_5 b3_5
  have HB6 : Hid (Below w.heap.size w w6) := below_step HB5.out hb
  have HBP6 : Hid (w6.heap[w.heap.size]? = some (boxP p)) := stepH HBP5.out hb
  have HBX6 : Hid (w6.heap[w.heap.size + 1]? = some zeroM) := stepH HBX5.out hb
  clear hb HB5 HBP5 HBX5
  have cp6 : w6.cell? ⟨w.heap.size, 0, none⟩ = some (.string p) := blk_cell HBP6.out 0
  have x0_6 : w6.cell? ⟨w.heap.size + 1, 0, none⟩ = some (.string ⟨#[]⟩) := blk_cell HBX6.out 0
  have f0_6 := blk_frozen HBX6.out 0
  have x1_6 : w6.cell? ⟨w.heap.size + 1, 1, none⟩ = some (.int .i64 0) := blk_cell HBX6.out 1
  have f1_6 := blk_frozen HBX6.out 1
  have x2_6 : w6.cell? ⟨w.heap.size + 1, 2, none⟩ = some (.int .i64 0) := blk_cell HBX6.out 2
  have f2_6 := blk_frozen HBX6.out 2
  have x3_6 : w6.cell? ⟨w.heap.size + 1, 3, none⟩ = some (.int .i64 0) := blk_cell HBX6.out 3
  have f3_6 := blk_frozen HBX6.out 3
  have a0_6 : w6.cell? _ = _ := (HB6.out.cell (World.block_lt_of_cell? w _ HX.out.1)).trans HX.out.1
  have a1_6 : w6.cell? _ = _ := (HB6.out.cell (World.block_lt_of_cell? w _ HX.out.2.1)).trans HX.out.2.1
  have a2_6 : w6.cell? _ = _ := (HB6.out.cell (World.block_lt_of_cell? w _ HX.out.2.2.1)).trans HX.out.2.2.1
  have a3_6 : w6.cell? _ = _ := (HB6.out.cell (World.block_lt_of_cell? w _ HX.out.2.2.2)).trans HX.out.2.2.2
  have b0_6 : w6.cell? _ = _ := (HB6.out.cell (World.block_lt_of_cell? w _ HY.out.1)).trans HY.out.1
  have b1_6 : w6.cell? _ = _ := (HB6.out.cell (World.block_lt_of_cell? w _ HY.out.2.1)).trans HY.out.2.1
  have b2_6 : w6.cell? _ = _ := (HB6.out.cell (World.block_lt_of_cell? w _ HY.out.2.2.1)).trans HY.out.2.2.1
  have b3_6 : w6.cell? _ = _ := (HB6.out.cell (World.block_lt_of_cell? w _ HY.out.2.2.2)).trans HY.out.2.2.2
  go_wp2_with fail
  refine (HOF.out _ HB6.out).mono ?_
  rintro e w7 ⟨rfl, hb⟩
  clear cp6 x0_6 f0_6 x1_6 f1_6 x2_6 f2_6 x3_6 f3_6 a0_6 a1_6 a2_6 a3_6 b0_6 b1_6 b2_6 b3_6
  have HB7 : Hid (Below w.heap.size w w7) := below_step HB6.out hb
  have HBP7 : Hid (w7.heap[w.heap.size]? = some (boxP p)) := stepH HBP6.out hb
  have HBX7 : Hid (w7.heap[w.heap.size + 1]? = some zeroM) := stepH HBX6.out hb
  clear hb HB6 HBP6 HBX6
  have cp7 : w7.cell? ⟨w.heap.size, 0, none⟩ = some (.string p) := blk_cell HBP7.out 0
  have x0_7 : w7.cell? ⟨w.heap.size + 1, 0, none⟩ = some (.string ⟨#[]⟩) := blk_cell HBX7.out 0
  have f0_7 := blk_frozen HBX7.out 0
  have x1_7 : w7.cell? ⟨w.heap.size + 1, 1, none⟩ = some (.int .i64 0) := blk_cell HBX7.out 1
  have f1_7 := blk_frozen HBX7.out 1
  have x2_7 : w7.cell? ⟨w.heap.size + 1, 2, none⟩ = some (.int .i64 0) := blk_cell HBX7.out 2
  have f2_7 := blk_frozen HBX7.out 2
  have x3_7 : w7.cell? ⟨w.heap.size + 1, 3, none⟩ = some (.int .i64 0) := blk_cell HBX7.out 3
  have f3_7 := blk_frozen HBX7.out 3
  have a0_7 : w7.cell? _ = _ := (HB7.out.cell (World.block_lt_of_cell? w _ HX.out.1)).trans HX.out.1
  have a1_7 : w7.cell? _ = _ := (HB7.out.cell (World.block_lt_of_cell? w _ HX.out.2.1)).trans HX.out.2.1
  have a2_7 : w7.cell? _ = _ := (HB7.out.cell (World.block_lt_of_cell? w _ HX.out.2.2.1)).trans HX.out.2.2.1
  have a3_7 : w7.cell? _ = _ := (HB7.out.cell (World.block_lt_of_cell? w _ HX.out.2.2.2)).trans HX.out.2.2.2
  have b0_7 : w7.cell? _ = _ := (HB7.out.cell (World.block_lt_of_cell? w _ HY.out.1)).trans HY.out.1
  have b1_7 : w7.cell? _ = _ := (HB7.out.cell (World.block_lt_of_cell? w _ HY.out.2.1)).trans HY.out.2.1
  have b2_7 : w7.cell? _ = _ := (HB7.out.cell (World.block_lt_of_cell? w _ HY.out.2.2.1)).trans HY.out.2.2.1
  have b3_7 : w7.cell? _ = _ := (HB7.out.cell (World.block_lt_of_cell? w _ HY.out.2.2.2)).trans HY.out.2.2.2
  have g0 := blk_lt HBP7.out
  have g1 := blk_lt HBX7.out
  go_wp2_with fail
  refine bodyPost_ret (results_list (rs := [.tmp 6, .cell 7 27, .tmp 8]) rfl (by simp) (.tmp (.cell (w.heap.size + 1) 27 _ (0, 0) _ rfl (setXa HBX7.out _ _ _ _ _) Try.underlying27 rfl (by kernel_rfl) (.tmp .nil)))) rfl ?_
  refine ⟨_, rfl, Kd.V_mono (Kd.V_below HV.out ?_) (fun _ hk => .inl hk), ?_⟩
  all_goals repeat (first | exact HB7.out | refine below_alloc ?_ _ | refine Below.drew ?_ | refine Below.setCell ?_ (Nat.le_succ _) _)

set_option maxHeartbeats 8000000 in
set_option maxRecDepth 100000 in
theorem begin_most_C (P0 : Nat → Prop) (A : Option Addr) (c : Nat) (l : List S27) (p : ByteArray) (d : Int) (j : Nat) (w : World) (hv : Kd.V k27 27 w w.heap.size P0 (.slice A l.length c) l) (hr : Kd.C k27 w A l.length l) (hc : l.length ≤ c)
    (h1 : mounts_Right.f (l.length + 10) l = some true) (h2 : path_Right.f p = some true) (h3 : mounts_group.f d = some true) (h32 : l.length ≤ 32) (hall : l.all (inOk p) = true) (hof : mounts_Of.f (kOf l) l p = some (j : Int)) (hj : j < l.length) (ho : own_ p l = true) (hm : movB (rd_T27 l (at_ p l : Nat)) = true) (hq : ((rd_T27 l (at_ p l : Nat)).f3 == d) = false) (hbu : l.any (busyB p) = false) (hz : ((rd_T27 l (j : Nat)).f1 == d) = false ∧ ((rd_T27 l (j : Nat)).f2 == 281474976710656) = true) :
    Calls Try.prog 12 #[.slice A l.length c, .string p, .int .i64 d] w (Post w P0 l ⟨#[]⟩ 0 0 0 2) := by
  have HR := Lib.hid (fun W (hW : Below w.heap.size w W) => mounts_Right.calls (l.length + 10) A c l true W (Kd.C_below hr hW) hc h1)
  have HP := Lib.hid (fun W => path_Right.calls p true W h2)
  have HG := Lib.hid (fun W => (mounts_group.calls d true W h3).mono (fun e w' (h : _ ∧ _) => And.intro h.1 h.2.below))
  have HF := Lib.hid (fun W (hW : Below w.heap.size w W) => find_calls A c l p W (Kd.C_below hr hW) (by omega))
  have HBU := Lib.hid (fun W g (hg : W.heap[g]? = some (.cells #[.string p] 9 (0, 0))) (hW : Below w.heap.size w W) => IMount.contains_calls 28 #[.pointer (some ⟨g, 0, none⟩)] (enters_of Try.func28 (by kernel_rfl) rfl) (busyB p) A c l W (busy_pred p g l W hall hg) (Kd.C_below hr hW) (by omega))
  have HOF := Lib.hid (fun W (hW : Below w.heap.size w W) => mounts_Of.calls (kOf l) A c l p (j : Int) W (Kd.C_below hr hW) hc hof)
  obtain ⟨ad, ea, hy0, hy1, hy2, hy3⟩ := at_T27 hr (j : Nat) (by omega) (by omega)
  simp only [Int.toNat_natCast] at hy0 hy1 hy2 hy3
  have HV := Lib.hid hv
  rw [ho] at HF
  rw [hbu] at HBU
  have hlt : at_ p l < l.length := by
    have : (decide (at_ p l < l.length) && decide (cmpP p (rd_T27 l (at_ p l : Nat)) = 0)) = true := ho
    simp at this
    exact this.1
  obtain ⟨ad2, ea2, hx0, hx1, hx2, hx3⟩ := at_T27 hr (at_ p l : Nat) (by omega) (by omega)
  simp only [Int.toNat_natCast] at hx0 hx1 hx2 hx3
  obtain rfl : ad = ad2 := Option.some.inj (ea.symm.trans ea2)
  have HLE := Lib.hid (at_le p l)
  obtain ⟨i, hi⟩ : ∃ i, at_ p l = i := ⟨_, rfl⟩
  rw [hi] at HF HLE hx0 hx1 hx2 hx3 hlt hm hq
  (try rw [hi])
  obtain ⟨x, hxx⟩ : ∃ x, rd_T27 l (i : Nat) = x := ⟨_, rfl⟩
  rw [hxx] at hx0 hx1 hx2 hx3 hm hq
  have HX := Lib.hid (And.intro hx0 (And.intro hx1 (And.intro hx2 hx3)))
  obtain ⟨mv, hmv⟩ : ∃ mv, movB x = mv := ⟨_, rfl⟩
  have HM := Lib.hid (fun W => moves_is x mv hmv W)
  rw [hmv] at hm
  obtain ⟨y, hyy⟩ : ∃ y, rd_T27 l (j : Nat) = y := ⟨_, rfl⟩
  rw [hyy] at hy0 hy1 hy2 hy3 hz
  (try rw [hyy])
  have HY := Lib.hid (And.intro hy0 (And.intro hy1 (And.intro hy2 hy3)))
  obtain ⟨n, hn⟩ : ∃ n, l.length = n := ⟨_, rfl⟩
  have HN := Lib.hid hn
  rw [hn] at HR HF HBU HOF HV hj h32 hlt ⊢
  have hjz : (j : Int) < (n : Int) := by omega
  clear hr hc h1 h2 h3 ho hv hy0 hy1 hy2 hy3 hi hyy hof hall hbu hx0 hx1 hx2 hx3 hxx hmv ea2
  cases ea
  
  have hlz : (i : Int) < (n : Int) := by omega
  
  obtain ⟨hz1, hz2⟩ := hz
  subst hm
  go_enter Try.func12, Try.ntmps12
  go_wp2_with fail
  refine (HR.out _ (by repeat (first | exact Below.refl _ _ | apply below_alloc))).mono ?_
  rintro e w1 ⟨rfl, hb1⟩
  obtain ⟨hB, hP, hX⟩ := start1 hb1
  have HB1 := Lib.hid hB
  have HBP1 : Hid (w1.heap[w.heap.size]? = some (boxP p)) := hP
  have HBX1 : Hid (w1.heap[w.heap.size + 1]? = some zeroM) := hX
  clear hb1 hB hP hX
  have cp1 : w1.cell? ⟨w.heap.size, 0, none⟩ = some (.string p) := blk_cell HBP1.out 0
  have x0_1 : w1.cell? ⟨w.heap.size + 1, 0, none⟩ = some (.string ⟨#[]⟩) := blk_cell HBX1.out 0
  have f0_1 := blk_frozen HBX1.out 0
  have x1_1 : w1.cell? ⟨w.heap.size + 1, 1, none⟩ = some (.int .i64 0) := blk_cell HBX1.out 1
  have f1_1 := blk_frozen HBX1.out 1
  have x2_1 : w1.cell? ⟨w.heap.size + 1, 2, none⟩ = some (.int .i64 0) := blk_cell HBX1.out 2
  have f2_1 := blk_frozen HBX1.out 2
  have x3_1 : w1.cell? ⟨w.heap.size + 1, 3, none⟩ = some (.int .i64 0) := blk_cell HBX1.out 3
  have f3_1 := blk_frozen HBX1.out 3
  have a0_1 : w1.cell? _ = _ := (HB1.out.cell (World.block_lt_of_cell? w _ HX.out.1)).trans HX.out.1
  have a1_1 : w1.cell? _ = _ := (HB1.out.cell (World.block_lt_of_cell? w _ HX.out.2.1)).trans HX.out.2.1
  have a2_1 : w1.cell? _ = _ := (HB1.out.cell (World.block_lt_of_cell? w _ HX.out.2.2.1)).trans HX.out.2.2.1
  have a3_1 : w1.cell? _ = _ := (HB1.out.cell (World.block_lt_of_cell? w _ HX.out.2.2.2)).trans HX.out.2.2.2
  have b0_1 : w1.cell? _ = _ := (HB1.out.cell (World.block_lt_of_cell? w _ HY.out.1)).trans HY.out.1
  have b1_1 : w1.cell? _ = _ := (HB1.out.cell (World.block_lt_of_cell? w _ HY.out.2.1)).trans HY.out.2.1
  have b2_1 : w1.cell? _ = _ := (HB1.out.cell (World.block_lt_of_cell? w _ HY.out.2.2.1)).trans HY.out.2.2.1
  have b3_1 : w1.cell? _ = _ := (HB1.out.cell (World.block_lt_of_cell? w _ HY.out.2.2.2)).trans HY.out.2.2.2
  go_wp2_with fail
  refine (HP.out _).mono ?_
  rintro e w2 ⟨rfl, hb⟩
  clear cp1 x0_1 f0_1 x1_1 f1_1 x2_1 f2_1 x3_1 f3_1 a0_1 a1_1 a2_1 a3_1 b0_1 b1_1 b2_1 b3_1
  have HB2 : Hid (Below w.heap.size w w2) := below_step HB1.out hb
  have HBP2 : Hid (w2.heap[w.heap.size]? = some (boxP p)) := stepH HBP1.out hb
  have HBX2 : Hid (w2.heap[w.heap.size + 1]? = some zeroM) := stepH HBX1.out hb
  clear hb HB1 HBP1 HBX1
  have cp2 : w2.cell? ⟨w.heap.size, 0, none⟩ = some (.string p) := blk_cell HBP2.out 0
  have x0_2 : w2.cell? ⟨w.heap.size + 1, 0, none⟩ = some (.string ⟨#[]⟩) := blk_cell HBX2.out 0
  have f0_2 := blk_frozen HBX2.out 0
  have x1_2 : w2.cell? ⟨w.heap.size + 1, 1, none⟩ = some (.int .i64 0) := blk_cell HBX2.out 1
  have f1_2 := blk_frozen HBX2.out 1
  have x2_2 : w2.cell? ⟨w.heap.size + 1, 2, none⟩ = some (.int .i64 0) := blk_cell HBX2.out 2
  have f2_2 := blk_frozen HBX2.out 2
  have x3_2 : w2.cell? ⟨w.heap.size + 1, 3, none⟩ = some (.int .i64 0) := blk_cell HBX2.out 3
  have f3_2 := blk_frozen HBX2.out 3
  have a0_2 : w2.cell? _ = _ := (HB2.out.cell (World.block_lt_of_cell? w _ HX.out.1)).trans HX.out.1
  have a1_2 : w2.cell? _ = _ := (HB2.out.cell (World.block_lt_of_cell? w _ HX.out.2.1)).trans HX.out.2.1
  have a2_2 : w2.cell? _ = _ := (HB2.out.cell (World.block_lt_of_cell? w _ HX.out.2.2.1)).trans HX.out.2.2.1
  have a3_2 : w2.cell? _ = _ := (HB2.out.cell (World.block_lt_of_cell? w _ HX.out.2.2.2)).trans HX.out.2.2.2
  have b0_2 : w2.cell? _ = _ := (HB2.out.cell (World.block_lt_of_cell? w _ HY.out.1)).trans HY.out.1
  have b1_2 : w2.cell? _ = _ := (HB2.out.cell (World.block_lt_of_cell? w _ HY.out.2.1)).trans HY.out.2.1
  have b2_2 : w2.cell? _ = _ := (HB2.out.cell (World.block_lt_of_cell? w _ HY.out.2.2.1)).trans HY.out.2.2.1
  have b3_2 : w2.cell? _ = _ := (HB2.out.cell (World.block_lt_of_cell? w _ HY.out.2.2.2)).trans HY.out.2.2.2
  go_wp2_with fail
  refine (HG.out _).mono ?_
  rintro e w3 ⟨rfl, hb⟩
  clear cp2 x0_2 f0_2 x1_2 f1_2 x2_2 f2_2 x3_2 f3_2 a0_2 a1_2 a2_2 a3_2 b0_2 b1_2 b2_2 b3_2
  have HB3 : Hid (Below w.heap.size w w3) := below_step HB2.out hb
  have HBP3 : Hid (w3.heap[w.heap.size]? = some (boxP p)) := stepH HBP2.out hb
  have HBX3 : Hid (w3.heap[w.heap.size + 1]? = some zeroM) := stepH HBX2.out hb
  clear hb HB2 HBP2 HBX2
  have cp3 : w3.cell? ⟨w.heap.size, 0, none⟩ = some (.string p) := blk_cell HBP3.out 0
  have x0_3 : w3.cell? ⟨w.heap.size + 1, 0, none⟩ = some (.string ⟨#[]⟩) := blk_cell HBX3.out 0
  have f0_3 := blk_frozen HBX3.out 0
  have x1_3 : w3.cell? ⟨w.heap.size + 1, 1, none⟩ = some (.int .i64 0) := blk_cell HBX3.out 1
  have f1_3 := blk_frozen HBX3.out 1
  have x2_3 : w3.cell? ⟨w.heap.size + 1, 2, none⟩ = some (.int .i64 0) := blk_cell HBX3.out 2
  have f2_3 := blk_frozen HBX3.out 2
  have x3_3 : w3.cell? ⟨w.heap.size + 1, 3, none⟩ = some (.int .i64 0) := blk_cell HBX3.out 3
  have f3_3 := blk_frozen HBX3.out 3
  have a0_3 : w3.cell? _ = _ := (HB3.out.cell (World.block_lt_of_cell? w _ HX.out.1)).trans HX.out.1
  have a1_3 : w3.cell? _ = _ := (HB3.out.cell (World.block_lt_of_cell? w _ HX.out.2.1)).trans HX.out.2.1
  have a2_3 : w3.cell? _ = _ := (HB3.out.cell (World.block_lt_of_cell? w _ HX.out.2.2.1)).trans HX.out.2.2.1
  have a3_3 : w3.cell? _ = _ := (HB3.out.cell (World.block_lt_of_cell? w _ HX.out.2.2.2)).trans HX.out.2.2.2
  have b0_3 : w3.cell? _ = _ := (HB3.out.cell (World.block_lt_of_cell? w _ HY.out.1)).trans HY.out.1
  have b1_3 : w3.cell? _ = _ := (HB3.out.cell (World.block_lt_of_cell? w _ HY.out.2.1)).trans HY.out.2.1
  have b2_3 : w3.cell? _ = _ := (HB3.out.cell (World.block_lt_of_cell? w _ HY.out.2.2.1)).trans HY.out.2.2.1
  have b3_3 : w3.cell? _ = _ := (HB3.out.cell (World.block_lt_of_cell? w _ HY.out.2.2.2)).trans HY.out.2.2.2
  go_wp2_with fail
  refine (HF.out _ HB3.out).mono ?_
  rintro e w4 ⟨rfl, hb⟩
  clear cp3 x0_3 f0_3 x1_3 f1_3 x2_3 f2_3 x3_3 f3_3 a0_3 a1_3 a2_3 a3_3 b0_3 b1_3 b2_3 b3_3
  have HB4 : Hid (Below w.heap.size w w4) := below_step HB3.out hb
  have HBP4 : Hid (w4.heap[w.heap.size]? = some (boxP p)) := stepH HBP3.out hb
  have HBX4 : Hid (w4.heap[w.heap.size + 1]? = some zeroM) := stepH HBX3.out hb
  clear hb HB3 HBP3 HBX3
  have cp4 : w4.cell? ⟨w.heap.size, 0, none⟩ = some (.string p) := blk_cell HBP4.out 0
  have x0_4 : w4.cell? ⟨w.heap.size + 1, 0, none⟩ = some (.string ⟨#[]⟩) := blk_cell HBX4.out 0
  have f0_4 := blk_frozen HBX4.out 0
  have x1_4 : w4.cell? ⟨w.heap.size + 1, 1, none⟩ = some (.int .i64 0) := blk_cell HBX4.out 1
  have f1_4 := blk_frozen HBX4.out 1
  have x2_4 : w4.cell? ⟨w.heap.size + 1, 2, none⟩ = some (.int .i64 0) := blk_cell HBX4.out 2
  have f2_4 := blk_frozen HBX4.out 2
  have x3_4 : w4.cell? ⟨w.heap.size + 1, 3, none⟩ = some (.int .i64 0) := blk_cell HBX4.out 3
  have f3_4 := blk_frozen HBX4.out 3
  have a0_4 : w4.cell? _ = _ := (HB4.out.cell (World.block_lt_of_cell? w _ HX.out.1)).trans HX.out.1
  have a1_4 : w4.cell? _ = _ := (HB4.out.cell (World.block_lt_of_cell? w _ HX.out.2.1)).trans HX.out.2.1
  have a2_4 : w4.cell? _ = _ := (HB4.out.cell (World.block_lt_of_cell? w _ HX.out.2.2.1)).trans HX.out.2.2.1
  have a3_4 : w4.cell? _ = _ := (HB4.out.cell (World.block_lt_of_cell? w _ HX.out.2.2.2)).trans HX.out.2.2.2
  have b0_4 : w4.cell? _ = _ := (HB4.out.cell (World.block_lt_of_cell? w _ HY.out.1)).trans HY.out.1
  have b1_4 : w4.cell? _ = _ := (HB4.out.cell (World.block_lt_of_cell? w _ HY.out.2.1)).trans HY.out.2.1
  have b2_4 : w4.cell? _ = _ := (HB4.out.cell (World.block_lt_of_cell? w _ HY.out.2.2.1)).trans HY.out.2.2.1
  have b3_4 : w4.cell? _ = _ := (HB4.out.cell (World.block_lt_of_cell? w _ HY.out.2.2.2)).trans HY.out.2.2.2
  go_wp2_with fail
  refine (HM.out _).mono ?_
  rintro e w5 ⟨rfl, hb⟩
  clear cp4 x0_4 f0_4 x1_4 f1_4 x2_4 f2_4 x3_4 f3_4 a0_4 a1_4 a2_4 a3_4 b0_4 b1_4 b2_4 b3_4
  have HB5 : Hid (Below w.heap.size w w5) := below_step HB4.out hb
  have HBP5 : Hid (w5.heap[w.heap.size]? = some (boxP p)) := stepH HBP4.out hb
  have HBX5 : Hid (w5.heap[w.heap.size + 1]? = some zeroM) := stepH HBX4.out hb
  clear hb HB4 HBP4 HBX4
  have cp5 : w5.cell? ⟨w.heap.size, 0, none⟩ = some (.string p) := blk_cell HBP5.out 0
  have x0_5 : w5.cell? ⟨w.heap.size + 1, 0, none⟩ = some (.string ⟨#[]⟩) := blk_cell HBX5.out 0
  have f0_5 := blk_frozen HBX5.out 0
  have x1_5 : w5.cell? ⟨w.heap.size + 1, 1, none⟩ = some (.int .i64 0) := blk_cell HBX5.out 1
  have f1_5 := blk_frozen HBX5.out 1
  have x2_5 : w5.cell? ⟨w.heap.size + 1, 2, none⟩ = some (.int .i64 0) := blk_cell HBX5.out 2
  have f2_5 := blk_frozen HBX5.out 2
  have x3_5 : w5.cell? ⟨w.heap.size + 1, 3, none⟩ = some (.int .i64 0) := blk_cell HBX5.out 3
  have f3_5 := blk_frozen HBX5.out 3
  have a0_5 : w5.cell? _ = _ := (HB5.out.cell (World.block_lt_of_cell? w _ HX.out.1)).trans HX.out.1
  have a1_5 : w5.cell? _ = _ := (HB5.out.cell (World.block_lt_of_cell? w _ HX.out.2.1)).trans HX.out.2.1
  have a2_5 : w5.cell? _ = _ := (HB5.out.cell (World.block_lt_of_cell? w _ HX.out.2.2.1)).trans HX.out.2.2.1
  have a3_5 : w5.cell? _ = _ := (HB5.out.cell (World.block_lt_of_cell? w _ HX.out.2.2.2)).trans HX.out.2.2.2
  have b0_5 : w5.cell? _ = _ := (HB5.out.cell (World.block_lt_of_cell? w _ HY.out.1)).trans HY.out.1
  have b1_5 : w5.cell? _ = _ := (HB5.out.cell (World.block_lt_of_cell? w _ HY.out.2.1)).trans HY.out.2.1
  have b2_5 : w5.cell? _ = _ := (HB5.out.cell (World.block_lt_of_cell? w _ HY.out.2.2.1)).trans HY.out.2.2.1
  have b3_5 : w5.cell? _ = _ := (HB5.out.cell (World.block_lt_of_cell? w _ HY.out.2.2.2)).trans HY.out.2.2.2
  go_wp2_with fail
  refine (HBU.out _ _ HBP5.out HB5.out).mono ?_
  rintro e w6 ⟨rfl, hb⟩
  clear cp5 x0_5 f0_5 x1_5 f1_5 x2_5 f2_5 x3_5 f3_5 a0_5 a1_5 a2_5 a3_5 b0_5 b1_5 b2_5 b3_5
  have HB6 : Hid (Below w.heap.size w w6) := below_step HB5.out hb
  have HBP6 : Hid (w6.heap[w.heap.size]? = some (boxP p)) := stepH HBP5.out hb
  have HBX6 : Hid (w6.heap[w.heap.size + 1]? = some zeroM) := stepH HBX5.out hb
  clear hb HB5 HBP5 HBX5
  have cp6 : w6.cell? ⟨w.heap.size, 0, none⟩ = some (.string p) := blk_cell HBP6.out 0
  have x0_6 : w6.cell? ⟨w.heap.size + 1, 0, none⟩ = some (.string ⟨#[]⟩) := blk_cell HBX6.out 0
  have f0_6 := blk_frozen HBX6.out 0
  have x1_6 : w6.cell? ⟨w.heap.size + 1, 1, none⟩ = some (.int .i64 0) := blk_cell HBX6.out 1
  have f1_6 := blk_frozen HBX6.out 1
  have x2_6 : w6.cell? ⟨w.heap.size + 1, 2, none⟩ = some (.int .i64 0) := blk_cell HBX6.out 2
  have f2_6 := blk_frozen HBX6.out 2
  have x3_6 : w6.cell? ⟨w.heap.size + 1, 3, none⟩ = some (.int .i64 0) := blk_cell HBX6.out 3
  have f3_6 := blk_frozen HBX6.out 3
  have a0_6 : w6.cell? _ = _ := (HB6.out.cell (World.block_lt_of_cell? w _ HX.out.1)).trans HX.out.1
  have a1_6 : w6.cell? _ = _ := (HB6.out.cell (World.block_lt_of_cell? w _ HX.out.2.1)).trans HX.out.2.1
  have a2_6 : w6.cell? _ = _ := (HB6.out.cell (World.block_lt_of_cell? w _ HX.out.2.2.1)).trans HX.out.2.2.1
  have a3_6 : w6.cell? _ = _ := (HB6.out.cell (World.block_lt_of_cell? w _ HX.out.2.2.2)).trans HX.out.2.2.2
  have b0_6 : w6.cell? _ = _ := (HB6.out.cell (World.block_lt_of_cell? w _ HY.out.1)).trans HY.out.1
  have b1_6 : w6.cell? _ = _ := (HB6.out.cell (World.block_lt_of_cell? w _ HY.out.2.1)).trans HY.out.2.1
  have b2_6 : w6.cell? _ = _ := (HB6.out.cell (World.block_lt_of_cell? w _ HY.out.2.2.1)).trans HY.out.2.2.1
  have b3_6 : w6.cell? _ = _ := (HB6.out.cell (World.block_lt_of_cell? w _ HY.out.2.2.2)).trans HY.out.2.2.2
  go_wp2_with fail
  refine (HOF.out _ HB6.out).mono ?_
  rintro e w7 ⟨rfl, hb⟩
  clear cp6 x0_6 f0_6 x1_6 f1_6 x2_6 f2_6 x3_6 f3_6 a0_6 a1_6 a2_6 a3_6 b0_6 b1_6 b2_6 b3_6
  have HB7 : Hid (Below w.heap.size w w7) := below_step HB6.out hb
  have HBP7 : Hid (w7.heap[w.heap.size]? = some (boxP p)) := stepH HBP6.out hb
  have HBX7 : Hid (w7.heap[w.heap.size + 1]? = some zeroM) := stepH HBX6.out hb
  clear hb HB6 HBP6 HBX6
  have cp7 : w7.cell? ⟨w.heap.size, 0, none⟩ = some (.string p) := blk_cell HBP7.out 0
  have x0_7 : w7.cell? ⟨w.heap.size + 1, 0, none⟩ = some (.string ⟨#[]⟩) := blk_cell HBX7.out 0
  have f0_7 := blk_frozen HBX7.out 0
  have x1_7 : w7.cell? ⟨w.heap.size + 1, 1, none⟩ = some (.int .i64 0) := blk_cell HBX7.out 1
  have f1_7 := blk_frozen HBX7.out 1
  have x2_7 : w7.cell? ⟨w.heap.size + 1, 2, none⟩ = some (.int .i64 0) := blk_cell HBX7.out 2
  have f2_7 := blk_frozen HBX7.out 2
  have x3_7 : w7.cell? ⟨w.heap.size + 1, 3, none⟩ = some (.int .i64 0) := blk_cell HBX7.out 3
  have f3_7 := blk_frozen HBX7.out 3
  have a0_7 : w7.cell? _ = _ := (HB7.out.cell (World.block_lt_of_cell? w _ HX.out.1)).trans HX.out.1
  have a1_7 : w7.cell? _ = _ := (HB7.out.cell (World.block_lt_of_cell? w _ HX.out.2.1)).trans HX.out.2.1
  have a2_7 : w7.cell? _ = _ := (HB7.out.cell (World.block_lt_of_cell? w _ HX.out.2.2.1)).trans HX.out.2.2.1
  have a3_7 : w7.cell? _ = _ := (HB7.out.cell (World.block_lt_of_cell? w _ HX.out.2.2.2)).trans HX.out.2.2.2
  have b0_7 : w7.cell? _ = _ := (HB7.out.cell (World.block_lt_of_cell? w _ HY.out.1)).trans HY.out.1
  have b1_7 : w7.cell? _ = _ := (HB7.out.cell (World.block_lt_of_cell? w _ HY.out.2.1)).trans HY.out.2.1
  have b2_7 : w7.cell? _ = _ := (HB7.out.cell (World.block_lt_of_cell? w _ HY.out.2.2.1)).trans HY.out.2.2.1
  have b3_7 : w7.cell? _ = _ := (HB7.out.cell (World.block_lt_of_cell? w _ HY.out.2.2.2)).trans HY.out.2.2.2
  have g0 := blk_lt HBP7.out
  have g1 := blk_lt HBX7.out
  go_wp2_with fail
  refine bodyPost_ret (results_list (rs := [.tmp 6, .cell 7 27, .tmp 8]) rfl (by simp) (.tmp (.cell (w.heap.size + 1) 27 _ (0, 0) _ rfl (setXa HBX7.out _ _ _ _ _) Try.underlying27 rfl (by kernel_rfl) (.tmp .nil)))) rfl ?_
  refine ⟨_, rfl, Kd.V_mono (Kd.V_below HV.out ?_) (fun _ hk => .inl hk), ?_⟩
  all_goals repeat (first | exact HB7.out | refine below_alloc ?_ _ | refine Below.drew ?_ | refine Below.setCell ?_ (Nat.le_succ _) _)
end Go.Proofs.Ytpkaedpgpncgpaa.MBegin
