/- The walks of mounts.Flip. -/
import Derived.Test.YtpkaedpgpncgpaaMBegin3
namespace Go.Proofs.Ytpkaedpgpncgpaa.MBegin
open Go Go.RowKit Go.Shelf Go.Proofs Go.Proofs.Ytpkaedpgpncgpaa.Q Go.Proofs.YtpkaedpgpncgpaaW.PrintWords Go.Proofs.YtpkaedpgpncgpaaW.PrintLast Go.Proofs.YtpkaedpgpncgpaaW.PrintMore

def mounts_Flip.f (l : List S27) (p : ByteArray) (ep d : Int) : Option (List S27 × Int) :=
  (mounts_Right.f (l.length + 10) l).bind fun r => (path_Right.f p).bind fun q => (mounts_group.f d).bind fun g =>
    if (r && (q && g)) = false then some ([], 1) else
    if 32 < l.length then none else
    let x := rd_T27 l (at_ p l : Nat)
    if own_ p l = false then some (l, 133) else
    if x.f3 ≠ d then some (l, 133) else
    if movB x = true then
      if x.f2 = ep ∧ ep < 281474976710656 then some (l.set (at_ p l) ⟨x.f0, d, wrap64 (x.f2 + 1), x.f3⟩, 0) else some (l, 133)
    else if x.f2 < 1 then some (l, 133) else if wrap64 (x.f2 - 1) ≠ ep then some (l, 133) else some (l, 0)
def PostF (w : World) (P0 : Nat → Prop) (r1 : List S27) (r2 : Int) (e : Ending) (w' : World) : Prop :=
  ∃ v : Value, e = .returned (.tuple #[v, .int .i64 r2]) ∧ Kd.V k27 27 w' w.heap.size (fun k_ => P0 k_ ∨ w.heap.size ≤ k_) v r1 ∧ Below w.heap.size w w'

theorem own_seg {base g n cap a m : Nat} {inner e : List Value} {w : World} (h : w.ownsRow base 27 4 (.slice (some ⟨g, 0, none⟩) n cap) m inner) (hi : a + e.length ≤ m * 4) :
    (w.setCells g a e).ownsRow base 27 4 (.slice (some ⟨g, 0, none⟩) n cap) m (inner.take a ++ e ++ inner.drop (a + e.length)) := by
  obtain ⟨hl, h2⟩ := h
  rcases h2 with ⟨h3, _⟩ | ⟨g', cap', cur, hv, hg, hh, hn, hm, hcz, hct⟩
  · cases h3
  · cases hv
    obtain ⟨c1, k1, k2, k3⟩ := setCells_row e a w cur hh (by omega)
    refine ⟨?_, .inr ⟨g, cap, c1, rfl, hg, k1, hn, hm, by rw [k2, hcz], ?_⟩⟩
    · rw [List.length_append, List.length_append, List.length_take, List.length_drop, hl]; omega
    · rw [k3]
      have e2 : cur.toList.take a = inner.take a := by rw [← hct, List.take_take]; congr 1; omega
      have hA : (inner.take a ++ e).length = a + e.length := by rw [List.length_append, List.length_take, hl]; omega
      have e3 : inner.drop (a + e.length) = (cur.toList.drop (a + e.length)).take (n * 4 - (a + e.length)) := by rw [← hct, List.drop_take]
      rw [e2, e3, List.take_append, hA, List.take_of_length_le (by omega)]
theorem list_flip (inner : List Value) (a : Nat) (u0 u1 u2 u3 v1 v2 : Value) (h : (inner.drop a).take 4 = [u0, u1, u2, u3]) :
    inner.take (a + 1) ++ [v1, v2] ++ inner.drop (a + 1 + 2) = inner.take a ++ [u0, v1, v2, u3] ++ inner.drop (a + 4) := by
  have h1 : inner.drop a = [u0, u1, u2, u3] ++ inner.drop (a + 4) := by rw [← h, ← List.drop_drop, List.take_append_drop]
  have h2 : inner.take (a + 1) = inner.take a ++ [u0] := by rw [List.take_add, h1]; rfl
  have h3 : inner.drop (a + 1 + 2) = u3 :: inner.drop (a + 4) := by rw [show a + 1 + 2 = a + 3 by omega, ← List.drop_drop, h1]; rfl
  rw [h2, h3]
  simp
theorem flip_R {base g n cap i : Nat} {d u : Int} {x : S27} {xs : List S27} {w : World} (hR : Kd.R k27 27 w base (fun _ => True) (.slice (some ⟨g, 0, none⟩) n cap) xs) (hi : i < xs.length) (hx : rd_T27 xs (i : Nat) = x) :
    Kd.R k27 27 (w.setCells g (i * 4 + 1) [.int .i64 d, .int .i64 u]) base (fun _ => True) (.slice (some ⟨g, 0, none⟩) n cap) (xs.set i ⟨x.f0, d, u, x.f3⟩) := by
  obtain ⟨_, inner, hown, hreps0⟩ := hR
  have hreps : Reps (k27.M w base (fun k => True ∧ some k ≠ (Value.slice (some ⟨g, 0, none⟩) n cap).ownBlock)) 4 xs inner := hreps0
  clear hreps0
  have hxi : xs[i] = x := by rw [← hx]; unfold rd_T27; simp [hi]
  have e0 : (inner.drop (i * 4)).take 4 = enc x := by
    have := k27_openM (hreps.2 i _ (List.getElem?_eq_getElem hi))
    rw [this, hxi]
  have e1 : xs.set i ⟨x.f0, d, u, x.f3⟩ = xs.take i ++ [⟨x.f0, d, u, x.f3⟩] ++ xs.drop (i + 1) := by rw [List.set_eq_take_append_cons_drop, if_pos hi]; simp
  have ho := own_seg (a := i * 4 + 1) (e := [.int .i64 d, .int .i64 u]) hown (by show i * 4 + 1 + 2 ≤ _; omega)
  have e2 := list_flip inner (i * 4) _ _ _ _ (.int .i64 d) (.int .i64 u) e0
  rw [show (i * 4 + 1 + [Value.int .i64 d, Value.int .i64 u].length) = i * 4 + 1 + 2 from rfl, e2] at ho
  have r1 := (Kd.reps_take (m := i) hreps (by omega)).imp_ (fun _ _ h => M_any (w' := w.setCells g (i * 4 + 1) [.int .i64 d, .int .i64 u]) (b' := base) (ok' := fun k => True ∧ some k ≠ (Value.slice (some ⟨g, 0, none⟩) n cap).ownBlock) h)
  have r2 := (Kd.reps_drop (m := i + 1) hreps).imp_ (fun _ _ h => M_any (w' := w.setCells g (i * 4 + 1) [.int .i64 d, .int .i64 u]) (b' := base) (ok' := fun k => True ∧ some k ≠ (Value.slice (some ⟨g, 0, none⟩) n cap).ownBlock) h)
  have r3 := Kd.reps_append (Kd.reps_append r1 (reps_one (k27_mkM (w.setCells g (i * 4 + 1) [.int .i64 d, .int .i64 u]) base (fun k => True ∧ some k ≠ (Value.slice (some ⟨g, 0, none⟩) n cap).ownBlock) ⟨x.f0, d, u, x.f3⟩) rfl)) r2
  rw [← e1, show (i + 1) * 4 = i * 4 + 4 by omega] at r3
  refine ⟨fun _ _ => trivial, _, ?_, r3⟩
  rw [List.length_set]
  exact ho

set_option maxHeartbeats 8000000 in
set_option maxRecDepth 100000 in
theorem flip_bad (P0 : Nat → Prop) (A : Option Addr) (c : Nat) (l : List S27) (p : ByteArray) (ep d : Int) (r q g : Bool) (w : World) (hr : Kd.C k27 w A l.length l) (hc : l.length ≤ c)
    (h1 : mounts_Right.f (l.length + 10) l = some r) (h2 : path_Right.f p = some q) (h3 : mounts_group.f d = some g) (hb : (r && (q && g)) = false) :
    Calls Try.prog 13 #[.slice A l.length c, .string p, .int .i64 ep, .int .i64 d] w (PostF w P0 [] 1) := by
  have HR := Lib.hid (fun W (hW : Below w.heap.size w W) => mounts_Right.calls (l.length + 10) A c l r W (Kd.C_below hr hW) hc h1)
  have HP := Lib.hid (fun W => path_Right.calls p q W h2)
  have HG := Lib.hid (fun W => (mounts_group.calls d g W h3).mono (fun e w' (h : _ ∧ _) => And.intro h.1 h.2.below))
  clear hr hc h1 h2 h3
  cases r
  · clear HP HG hb
    go_enter Try.func13, Try.ntmps13
    go_wp2_with fail
    refine (HR.out _ (Below.refl _ _)).mono ?_
    rintro e w1 ⟨rfl, hb⟩
    have HB1 : Hid (Below w.heap.size w w1) := hb
    clear hb
    go_wp2_with fail
    go_ret2
    refine ⟨_, rfl, Kd.V_nil _ _ _ _ _, ?_⟩
    all_goals repeat (first | exact HB1.out | refine below_alloc ?_ _)
  · cases q
    · clear HG hb
      go_enter Try.func13, Try.ntmps13
      go_wp2_with fail
      refine (HR.out _ (Below.refl _ _)).mono ?_
      rintro e w1 ⟨rfl, hb⟩
      have HB1 : Hid (Below w.heap.size w w1) := hb
      clear hb
      go_wp2_with fail
      refine (HP.out _).mono ?_
      rintro e w2 ⟨rfl, hb⟩
      have HB2 : Hid (Below w.heap.size w w2) := below_step HB1.out hb
      clear hb HB1
      go_wp2_with fail
      go_ret2
      refine ⟨_, rfl, Kd.V_nil _ _ _ _ _, ?_⟩
      all_goals repeat (first | exact HB2.out | refine below_alloc ?_ _)
    · cases g
      · clear hb
        go_enter Try.func13, Try.ntmps13
        go_wp2_with fail
        refine (HR.out _ (Below.refl _ _)).mono ?_
        rintro e w1 ⟨rfl, hb⟩
        have HB1 : Hid (Below w.heap.size w w1) := hb
        clear hb
        go_wp2_with fail
        refine (HP.out _).mono ?_
        rintro e w2 ⟨rfl, hb⟩
        have HB2 : Hid (Below w.heap.size w w2) := below_step HB1.out hb
        clear hb HB1
        go_wp2_with fail
        refine (HG.out _).mono ?_
        rintro e w3 ⟨rfl, hb⟩
        have HB3 : Hid (Below w.heap.size w w3) := below_step HB2.out hb
        clear hb HB2
        go_wp2_with fail
        go_ret2
        refine ⟨_, rfl, Kd.V_nil _ _ _ _ _, ?_⟩
        all_goals repeat (first | exact HB3.out | refine below_alloc ?_ _)
      · cases hb

set_option maxHeartbeats 8000000 in
set_option maxRecDepth 100000 in
theorem flip_none (P0 : Nat → Prop) (A : Option Addr) (c : Nat) (l : List S27) (p : ByteArray) (ep d : Int) (w : World) (hv : Kd.V k27 27 w w.heap.size P0 (.slice A l.length c) l) (hr : Kd.C k27 w A l.length l) (hc : l.length ≤ c)
    (h1 : mounts_Right.f (l.length + 10) l = some true) (h2 : path_Right.f p = some true) (h3 : mounts_group.f d = some true) (h32 : l.length ≤ 32) (ho : own_ p l = false) :
    Calls Try.prog 13 #[.slice A l.length c, .string p, .int .i64 ep, .int .i64 d] w (PostF w P0 l 133) := by
  have HR := Lib.hid (fun W (hW : Below w.heap.size w W) => mounts_Right.calls (l.length + 10) A c l true W (Kd.C_below hr hW) hc h1)
  have HP := Lib.hid (fun W => path_Right.calls p true W h2)
  have HG := Lib.hid (fun W => (mounts_group.calls d true W h3).mono (fun e w' (h : _ ∧ _) => And.intro h.1 h.2.below))
  have HF := Lib.hid (fun W (hW : Below w.heap.size w W) => find_calls A c l p W (Kd.C_below hr hW) (by omega))
  have HCL := Lib.hid (fun W (hW : Below w.heap.size w W) => CMount.clone_calls A c l W (Kd.C_below hr hW) (by omega))
  have HV := Lib.hid hv
  rw [ho] at HF
  obtain ⟨i, hi⟩ : ∃ i, at_ p l = i := ⟨_, rfl⟩
  rw [hi] at HF
  obtain ⟨n, hn⟩ : ∃ n, l.length = n := ⟨_, rfl⟩
  rw [hn] at HR HF HCL HV ⊢
  clear hr hc h1 h2 h3 ho hv hi h32
  go_enter Try.func13, Try.ntmps13
  go_wp2_with fail
  refine (HR.out _ (Below.refl _ _)).mono ?_
  rintro e w1 ⟨rfl, hb⟩
  have HB1 : Hid (Below w.heap.size w w1) := hb
  clear hb
  go_wp2_with fail
  refine (HP.out _).mono ?_
  rintro e w2 ⟨rfl, hb⟩
  have HB2 : Hid (Below w.heap.size w w2) := below_step HB1.out hb
  clear hb HB1
  go_wp2_with fail
  refine (HG.out _).mono ?_
  rintro e w3 ⟨rfl, hb⟩
  have HB3 : Hid (Below w.heap.size w w3) := below_step HB2.out hb
  clear hb HB2
  go_wp2_with fail
  refine (HF.out _ HB3.out).mono ?_
  rintro e w4 ⟨rfl, hb⟩
  have HB4 : Hid (Below w.heap.size w w4) := below_step HB3.out hb
  clear hb HB3
  go_wp2_with fail
  go_ret2
  refine ⟨_, rfl, Kd.V_mono (Kd.V_below HV.out ?_) (fun _ hk => .inl hk), ?_⟩
  all_goals repeat (first | exact HB4.out | refine below_alloc ?_ _)

set_option maxHeartbeats 8000000 in
set_option maxRecDepth 100000 in
theorem flip_other (P0 : Nat → Prop) (A : Option Addr) (c : Nat) (l : List S27) (p : ByteArray) (ep d : Int) (w : World) (hv : Kd.V k27 27 w w.heap.size P0 (.slice A l.length c) l) (hr : Kd.C k27 w A l.length l) (hc : l.length ≤ c)
    (h1 : mounts_Right.f (l.length + 10) l = some true) (h2 : path_Right.f p = some true) (h3 : mounts_group.f d = some true) (h32 : l.length ≤ 32) (ho : own_ p l = true) (hq : ((rd_T27 l (at_ p l : Nat)).f3 != d) = true) :
    Calls Try.prog 13 #[.slice A l.length c, .string p, .int .i64 ep, .int .i64 d] w (PostF w P0 l 133) := by
  have HR := Lib.hid (fun W (hW : Below w.heap.size w W) => mounts_Right.calls (l.length + 10) A c l true W (Kd.C_below hr hW) hc h1)
  have HP := Lib.hid (fun W => path_Right.calls p true W h2)
  have HG := Lib.hid (fun W => (mounts_group.calls d true W h3).mono (fun e w' (h : _ ∧ _) => And.intro h.1 h.2.below))
  have HF := Lib.hid (fun W (hW : Below w.heap.size w W) => find_calls A c l p W (Kd.C_below hr hW) (by omega))
  have HCL := Lib.hid (fun W (hW : Below w.heap.size w W) => CMount.clone_calls A c l W (Kd.C_below hr hW) (by omega))
  have HV := Lib.hid hv
  rw [ho] at HF
  have hlt : at_ p l < l.length := by
    have : (decide (at_ p l < l.length) && decide (cmpP p (rd_T27 l (at_ p l : Nat)) = 0)) = true := ho
    simp at this
    exact this.1
  obtain ⟨ad, ea, hx0, hx1, hx2, hx3⟩ := at_T27 hr (at_ p l : Nat) (by omega) (by omega)
  simp only [Int.toNat_natCast] at hx0 hx1 hx2 hx3
  obtain ⟨i, hi⟩ : ∃ i, at_ p l = i := ⟨_, rfl⟩
  rw [hi] at HF hx0 hx1 hx2 hx3 hlt hq
  (try rw [hi])
  obtain ⟨x, hxx⟩ : ∃ x, rd_T27 l (i : Nat) = x := ⟨_, rfl⟩
  rw [hxx] at hx0 hx1 hx2 hx3 hq
  (try rw [hxx])
  have HX := Lib.hid (And.intro hx0 (And.intro hx1 (And.intro hx2 hx3)))
  obtain ⟨n, hn⟩ : ∃ n, l.length = n := ⟨_, rfl⟩
  have HN := Lib.hid hn
  rw [hn] at HR HF HCL HV hlt h32 ⊢
  have hlz : (i : Int) < (n : Int) := by omega
  clear hr hc h1 h2 h3 ho hv hx0 hx1 hx2 hx3 hi hxx
  cases ea
  go_enter Try.func13, Try.ntmps13
  go_wp2_with fail
  refine (HR.out _ (Below.refl _ _)).mono ?_
  rintro e w1 ⟨rfl, hb⟩
  have HB1 : Hid (Below w.heap.size w w1) := hb
  clear hb
  have a0_1 : w1.cell? _ = _ := (HB1.out.cell (World.block_lt_of_cell? w _ HX.out.1)).trans HX.out.1
  have a1_1 : w1.cell? _ = _ := (HB1.out.cell (World.block_lt_of_cell? w _ HX.out.2.1)).trans HX.out.2.1
  have a2_1 : w1.cell? _ = _ := (HB1.out.cell (World.block_lt_of_cell? w _ HX.out.2.2.1)).trans HX.out.2.2.1
  have a3_1 : w1.cell? _ = _ := (HB1.out.cell (World.block_lt_of_cell? w _ HX.out.2.2.2)).trans HX.out.2.2.2
  go_wp2_with fail
  refine (HP.out _).mono ?_
  rintro e w2 ⟨rfl, hb⟩
  clear a0_1 a1_1 a2_1 a3_1
  have HB2 : Hid (Below w.heap.size w w2) := below_step HB1.out hb
  clear hb HB1
  have a0_2 : w2.cell? _ = _ := (HB2.out.cell (World.block_lt_of_cell? w _ HX.out.1)).trans HX.out.1
  have a1_2 : w2.cell? _ = _ := (HB2.out.cell (World.block_lt_of_cell? w _ HX.out.2.1)).trans HX.out.2.1
  have a2_2 : w2.cell? _ = _ := (HB2.out.cell (World.block_lt_of_cell? w _ HX.out.2.2.1)).trans HX.out.2.2.1
  have a3_2 : w2.cell? _ = _ := (HB2.out.cell (World.block_lt_of_cell? w _ HX.out.2.2.2)).trans HX.out.2.2.2
  go_wp2_with fail
  refine (HG.out _).mono ?_
  rintro e w3 ⟨rfl, hb⟩
  clear a0_2 a1_2 a2_2 a3_2
  have HB3 : Hid (Below w.heap.size w w3) := below_step HB2.out hb
  clear hb HB2
  have a0_3 : w3.cell? _ = _ := (HB3.out.cell (World.block_lt_of_cell? w _ HX.out.1)).trans HX.out.1
  have a1_3 : w3.cell? _ = _ := (HB3.out.cell (World.block_lt_of_cell? w _ HX.out.2.1)).trans HX.out.2.1
  have a2_3 : w3.cell? _ = _ := (HB3.out.cell (World.block_lt_of_cell? w _ HX.out.2.2.1)).trans HX.out.2.2.1
  have a3_3 : w3.cell? _ = _ := (HB3.out.cell (World.block_lt_of_cell? w _ HX.out.2.2.2)).trans HX.out.2.2.2
  go_wp2_with fail
  refine (HF.out _ HB3.out).mono ?_
  rintro e w4 ⟨rfl, hb⟩
  clear a0_3 a1_3 a2_3 a3_3
  have HB4 : Hid (Below w.heap.size w w4) := below_step HB3.out hb
  clear hb HB3
  have a0_4 : w4.cell? _ = _ := (HB4.out.cell (World.block_lt_of_cell? w _ HX.out.1)).trans HX.out.1
  have a1_4 : w4.cell? _ = _ := (HB4.out.cell (World.block_lt_of_cell? w _ HX.out.2.1)).trans HX.out.2.1
  have a2_4 : w4.cell? _ = _ := (HB4.out.cell (World.block_lt_of_cell? w _ HX.out.2.2.1)).trans HX.out.2.2.1
  have a3_4 : w4.cell? _ = _ := (HB4.out.cell (World.block_lt_of_cell? w _ HX.out.2.2.2)).trans HX.out.2.2.2
  go_wp2_with fail
  go_ret2
  refine ⟨_, rfl, Kd.V_mono (Kd.V_below HV.out ?_) (fun _ hk => .inl hk), ?_⟩
  all_goals repeat (first | exact HB4.out | refine below_alloc ?_ _)

set_option maxHeartbeats 8000000 in
set_option maxRecDepth 100000 in
theorem flip_m_a (P0 : Nat → Prop) (A : Option Addr) (c : Nat) (l : List S27) (p : ByteArray) (ep d : Int) (w : World) (hv : Kd.V k27 27 w w.heap.size P0 (.slice A l.length c) l) (hr : Kd.C k27 w A l.length l) (hc : l.length ≤ c)
    (h1 : mounts_Right.f (l.length + 10) l = some true) (h2 : path_Right.f p = some true) (h3 : mounts_group.f d = some true) (h32 : l.length ≤ 32) (ho : own_ p l = true) (hq : ((rd_T27 l (at_ p l : Nat)).f3 != d) = false) (hm : movB (rd_T27 l (at_ p l : Nat)) = true) (he : ((rd_T27 l (at_ p l : Nat)).f2 == ep) = false) :
    Calls Try.prog 13 #[.slice A l.length c, .string p, .int .i64 ep, .int .i64 d] w (PostF w P0 l 133) := by
  have HR := Lib.hid (fun W (hW : Below w.heap.size w W) => mounts_Right.calls (l.length + 10) A c l true W (Kd.C_below hr hW) hc h1)
  have HP := Lib.hid (fun W => path_Right.calls p true W h2)
  have HG := Lib.hid (fun W => (mounts_group.calls d true W h3).mono (fun e w' (h : _ ∧ _) => And.intro h.1 h.2.below))
  have HF := Lib.hid (fun W (hW : Below w.heap.size w W) => find_calls A c l p W (Kd.C_below hr hW) (by omega))
  have HCL := Lib.hid (fun W (hW : Below w.heap.size w W) => CMount.clone_calls A c l W (Kd.C_below hr hW) (by omega))
  have HV := Lib.hid hv
  rw [ho] at HF
  have hlt : at_ p l < l.length := by
    have : (decide (at_ p l < l.length) && decide (cmpP p (rd_T27 l (at_ p l : Nat)) = 0)) = true := ho
    simp at this
    exact this.1
  obtain ⟨ad, ea, hx0, hx1, hx2, hx3⟩ := at_T27 hr (at_ p l : Nat) (by omega) (by omega)
  simp only [Int.toNat_natCast] at hx0 hx1 hx2 hx3
  obtain ⟨i, hi⟩ : ∃ i, at_ p l = i := ⟨_, rfl⟩
  rw [hi] at HF hx0 hx1 hx2 hx3 hlt hq hm he
  (try rw [hi])
  obtain ⟨x, hxx⟩ : ∃ x, rd_T27 l (i : Nat) = x := ⟨_, rfl⟩
  rw [hxx] at hx0 hx1 hx2 hx3 hq hm he
  (try rw [hxx])
  have HX := Lib.hid (And.intro hx0 (And.intro hx1 (And.intro hx2 hx3)))
  obtain ⟨n, hn⟩ : ∃ n, l.length = n := ⟨_, rfl⟩
  have HN := Lib.hid hn
  rw [hn] at HR HF HCL HV hlt h32 ⊢
  have hlz : (i : Int) < (n : Int) := by omega
  clear hr hc h1 h2 h3 ho hv hx0 hx1 hx2 hx3 hi hxx
  cases ea
  obtain ⟨mv, hmv⟩ : ∃ mv, movB x = mv := ⟨_, rfl⟩
  have HM := Lib.hid (fun W => moves_is x mv hmv W)
  rw [hmv] at hm
  clear hmv
  subst hm
  go_enter Try.func13, Try.ntmps13
  go_wp2_with fail
  refine (HR.out _ (Below.refl _ _)).mono ?_
  rintro e w1 ⟨rfl, hb⟩
  have HB1 : Hid (Below w.heap.size w w1) := hb
  clear hb
  have a0_1 : w1.cell? _ = _ := (HB1.out.cell (World.block_lt_of_cell? w _ HX.out.1)).trans HX.out.1
  have a1_1 : w1.cell? _ = _ := (HB1.out.cell (World.block_lt_of_cell? w _ HX.out.2.1)).trans HX.out.2.1
  have a2_1 : w1.cell? _ = _ := (HB1.out.cell (World.block_lt_of_cell? w _ HX.out.2.2.1)).trans HX.out.2.2.1
  have a3_1 : w1.cell? _ = _ := (HB1.out.cell (World.block_lt_of_cell? w _ HX.out.2.2.2)).trans HX.out.2.2.2
  go_wp2_with fail
  refine (HP.out _).mono ?_
  rintro e w2 ⟨rfl, hb⟩
  clear a0_1 a1_1 a2_1 a3_1
  have HB2 : Hid (Below w.heap.size w w2) := below_step HB1.out hb
  clear hb HB1
  have a0_2 : w2.cell? _ = _ := (HB2.out.cell (World.block_lt_of_cell? w _ HX.out.1)).trans HX.out.1
  have a1_2 : w2.cell? _ = _ := (HB2.out.cell (World.block_lt_of_cell? w _ HX.out.2.1)).trans HX.out.2.1
  have a2_2 : w2.cell? _ = _ := (HB2.out.cell (World.block_lt_of_cell? w _ HX.out.2.2.1)).trans HX.out.2.2.1
  have a3_2 : w2.cell? _ = _ := (HB2.out.cell (World.block_lt_of_cell? w _ HX.out.2.2.2)).trans HX.out.2.2.2
  go_wp2_with fail
  refine (HG.out _).mono ?_
  rintro e w3 ⟨rfl, hb⟩
  clear a0_2 a1_2 a2_2 a3_2
  have HB3 : Hid (Below w.heap.size w w3) := below_step HB2.out hb
  clear hb HB2
  have a0_3 : w3.cell? _ = _ := (HB3.out.cell (World.block_lt_of_cell? w _ HX.out.1)).trans HX.out.1
  have a1_3 : w3.cell? _ = _ := (HB3.out.cell (World.block_lt_of_cell? w _ HX.out.2.1)).trans HX.out.2.1
  have a2_3 : w3.cell? _ = _ := (HB3.out.cell (World.block_lt_of_cell? w _ HX.out.2.2.1)).trans HX.out.2.2.1
  have a3_3 : w3.cell? _ = _ := (HB3.out.cell (World.block_lt_of_cell? w _ HX.out.2.2.2)).trans HX.out.2.2.2
  go_wp2_with fail
  refine (HF.out _ HB3.out).mono ?_
  rintro e w4 ⟨rfl, hb⟩
  clear a0_3 a1_3 a2_3 a3_3
  have HB4 : Hid (Below w.heap.size w w4) := below_step HB3.out hb
  clear hb HB3
  have a0_4 : w4.cell? _ = _ := (HB4.out.cell (World.block_lt_of_cell? w _ HX.out.1)).trans HX.out.1
  have a1_4 : w4.cell? _ = _ := (HB4.out.cell (World.block_lt_of_cell? w _ HX.out.2.1)).trans HX.out.2.1
  have a2_4 : w4.cell? _ = _ := (HB4.out.cell (World.block_lt_of_cell? w _ HX.out.2.2.1)).trans HX.out.2.2.1
  have a3_4 : w4.cell? _ = _ := (HB4.out.cell (World.block_lt_of_cell? w _ HX.out.2.2.2)).trans HX.out.2.2.2
  go_wp2_with fail
  refine (HM.out _).mono ?_
  rintro e w5 ⟨rfl, hb⟩
  clear a0_4 a1_4 a2_4 a3_4
  have HB5 : Hid (Below w.heap.size w w5) := below_step (below_alloc HB4.out _) hb
  have HZ5 : Hid (w5.heap[w4.heap.size]? = some (.cells #[.string x.f0, .int .i64 x.f1, .int .i64 x.f2, .int .i64 x.f3] 27 (0, 0))) := stepH (W := w4.alloc (.cells #[.string x.f0, .int .i64 x.f1, .int .i64 x.f2, .int .i64 x.f3] 27)) (by show (w4.heap.push _)[w4.heap.size]? = _; simp) hb
  have hbz := hb.size
  clear hb
  have a0_5 : w5.cell? _ = _ := (HB5.out.cell (World.block_lt_of_cell? w _ HX.out.1)).trans HX.out.1
  have a1_5 : w5.cell? _ = _ := (HB5.out.cell (World.block_lt_of_cell? w _ HX.out.2.1)).trans HX.out.2.1
  have a2_5 : w5.cell? _ = _ := (HB5.out.cell (World.block_lt_of_cell? w _ HX.out.2.2.1)).trans HX.out.2.2.1
  have a3_5 : w5.cell? _ = _ := (HB5.out.cell (World.block_lt_of_cell? w _ HX.out.2.2.2)).trans HX.out.2.2.2
  have z0_5 : w5.cell? ⟨w4.heap.size, 0, none⟩ = some (.string x.f0) := blk_cell HZ5.out 0
  have z1_5 : w5.cell? ⟨w4.heap.size, 1, none⟩ = some (.int .i64 x.f1) := blk_cell HZ5.out 1
  have z2_5 : w5.cell? ⟨w4.heap.size, 2, none⟩ = some (.int .i64 x.f2) := blk_cell HZ5.out 2
  have z3_5 : w5.cell? ⟨w4.heap.size, 3, none⟩ = some (.int .i64 x.f3) := blk_cell HZ5.out 3
  go_wp2_with fail
  refine (HM.out _).mono ?_
  rintro e w6 ⟨rfl, hb⟩
  clear a0_5 a1_5 a2_5 a3_5
  clear z0_5 z1_5 z2_5 z3_5
  have HB6 : Hid (Below w.heap.size w w6) := below_step HB5.out hb
  have HZ6 : Hid (w6.heap[w4.heap.size]? = some (.cells #[.string x.f0, .int .i64 x.f1, .int .i64 x.f2, .int .i64 x.f3] 27 (0, 0))) := stepH HZ5.out hb
  clear hb HB5 HZ5
  have a0_6 : w6.cell? _ = _ := (HB6.out.cell (World.block_lt_of_cell? w _ HX.out.1)).trans HX.out.1
  have a1_6 : w6.cell? _ = _ := (HB6.out.cell (World.block_lt_of_cell? w _ HX.out.2.1)).trans HX.out.2.1
  have a2_6 : w6.cell? _ = _ := (HB6.out.cell (World.block_lt_of_cell? w _ HX.out.2.2.1)).trans HX.out.2.2.1
  have a3_6 : w6.cell? _ = _ := (HB6.out.cell (World.block_lt_of_cell? w _ HX.out.2.2.2)).trans HX.out.2.2.2
  have z0_6 : w6.cell? ⟨w4.heap.size, 0, none⟩ = some (.string x.f0) := blk_cell HZ6.out 0
  have z1_6 : w6.cell? ⟨w4.heap.size, 1, none⟩ = some (.int .i64 x.f1) := blk_cell HZ6.out 1
  have z2_6 : w6.cell? ⟨w4.heap.size, 2, none⟩ = some (.int .i64 x.f2) := blk_cell HZ6.out 2
  have z3_6 : w6.cell? ⟨w4.heap.size, 3, none⟩ = some (.int .i64 x.f3) := blk_cell HZ6.out 3
  go_wp2_with fail
  go_ret2
  refine ⟨_, rfl, Kd.V_mono (Kd.V_below HV.out ?_) (fun _ hk => .inl hk), ?_⟩
  all_goals repeat (first | exact HB6.out | refine below_alloc ?_ _)

set_option maxHeartbeats 8000000 in
set_option maxRecDepth 100000 in
theorem flip_m_b (P0 : Nat → Prop) (A : Option Addr) (c : Nat) (l : List S27) (p : ByteArray) (ep d : Int) (w : World) (hv : Kd.V k27 27 w w.heap.size P0 (.slice A l.length c) l) (hr : Kd.C k27 w A l.length l) (hc : l.length ≤ c)
    (h1 : mounts_Right.f (l.length + 10) l = some true) (h2 : path_Right.f p = some true) (h3 : mounts_group.f d = some true) (h32 : l.length ≤ 32) (ho : own_ p l = true) (hq : ((rd_T27 l (at_ p l : Nat)).f3 != d) = false) (hm : movB (rd_T27 l (at_ p l : Nat)) = true) (he : ((rd_T27 l (at_ p l : Nat)).f2 == ep) = true) (hu2 : decide (ep < 281474976710656) = false) :
    Calls Try.prog 13 #[.slice A l.length c, .string p, .int .i64 ep, .int .i64 d] w (PostF w P0 l 133) := by
  have HR := Lib.hid (fun W (hW : Below w.heap.size w W) => mounts_Right.calls (l.length + 10) A c l true W (Kd.C_below hr hW) hc h1)
  have HP := Lib.hid (fun W => path_Right.calls p true W h2)
  have HG := Lib.hid (fun W => (mounts_group.calls d true W h3).mono (fun e w' (h : _ ∧ _) => And.intro h.1 h.2.below))
  have HF := Lib.hid (fun W (hW : Below w.heap.size w W) => find_calls A c l p W (Kd.C_below hr hW) (by omega))
  have HCL := Lib.hid (fun W (hW : Below w.heap.size w W) => CMount.clone_calls A c l W (Kd.C_below hr hW) (by omega))
  have HV := Lib.hid hv
  rw [ho] at HF
  have hlt : at_ p l < l.length := by
    have : (decide (at_ p l < l.length) && decide (cmpP p (rd_T27 l (at_ p l : Nat)) = 0)) = true := ho
    simp at this
    exact this.1
  obtain ⟨ad, ea, hx0, hx1, hx2, hx3⟩ := at_T27 hr (at_ p l : Nat) (by omega) (by omega)
  simp only [Int.toNat_natCast] at hx0 hx1 hx2 hx3
  obtain ⟨i, hi⟩ : ∃ i, at_ p l = i := ⟨_, rfl⟩
  rw [hi] at HF hx0 hx1 hx2 hx3 hlt hq hm he
  (try rw [hi])
  obtain ⟨x, hxx⟩ : ∃ x, rd_T27 l (i : Nat) = x := ⟨_, rfl⟩
  rw [hxx] at hx0 hx1 hx2 hx3 hq hm he
  (try rw [hxx])
  have HX := Lib.hid (And.intro hx0 (And.intro hx1 (And.intro hx2 hx3)))
  obtain ⟨n, hn⟩ : ∃ n, l.length = n := ⟨_, rfl⟩
  have HN := Lib.hid hn
  rw [hn] at HR HF HCL HV hlt h32 ⊢
  have hlz : (i : Int) < (n : Int) := by omega
  clear hr hc h1 h2 h3 ho hv hx0 hx1 hx2 hx3 hi hxx
  cases ea
  obtain ⟨mv, hmv⟩ : ∃ mv, movB x = mv := ⟨_, rfl⟩
  have HM := Lib.hid (fun W => moves_is x mv hmv W)
  rw [hmv] at hm
  clear hmv
  subst hm
  go_enter Try.func13, Try.ntmps13
  go_wp2_with fail
  refine (HR.out _ (Below.refl _ _)).mono ?_
  rintro e w1 ⟨rfl, hb⟩
  have HB1 : Hid (Below w.heap.size w w1) := hb
  clear hb
  have a0_1 : w1.cell? _ = _ := (HB1.out.cell (World.block_lt_of_cell? w _ HX.out.1)).trans HX.out.1
  have a1_1 : w1.cell? _ = _ := (HB1.out.cell (World.block_lt_of_cell? w _ HX.out.2.1)).trans HX.out.2.1
  have a2_1 : w1.cell? _ = _ := (HB1.out.cell (World.block_lt_of_cell? w _ HX.out.2.2.1)).trans HX.out.2.2.1
  have a3_1 : w1.cell? _ = _ := (HB1.out.cell (World.block_lt_of_cell? w _ HX.out.2.2.2)).trans HX.out.2.2.2
  go_wp2_with fail
  refine (HP.out _).mono ?_
  rintro e w2 ⟨rfl, hb⟩
  clear a0_1 a1_1 a2_1 a3_1
  have HB2 : Hid (Below w.heap.size w w2) := below_step HB1.out hb
  clear hb HB1
  have a0_2 : w2.cell? _ = _ := (HB2.out.cell (World.block_lt_of_cell? w _ HX.out.1)).trans HX.out.1
  have a1_2 : w2.cell? _ = _ := (HB2.out.cell (World.block_lt_of_cell? w _ HX.out.2.1)).trans HX.out.2.1
  have a2_2 : w2.cell? _ = _ := (HB2.out.cell (World.block_lt_of_cell? w _ HX.out.2.2.1)).trans HX.out.2.2.1
  have a3_2 : w2.cell? _ = _ := (HB2.out.cell (World.block_lt_of_cell? w _ HX.out.2.2.2)).trans HX.out.2.2.2
  go_wp2_with fail
  refine (HG.out _).mono ?_
  rintro e w3 ⟨rfl, hb⟩
  clear a0_2 a1_2 a2_2 a3_2
  have HB3 : Hid (Below w.heap.size w w3) := below_step HB2.out hb
  clear hb HB2
  have a0_3 : w3.cell? _ = _ := (HB3.out.cell (World.block_lt_of_cell? w _ HX.out.1)).trans HX.out.1
  have a1_3 : w3.cell? _ = _ := (HB3.out.cell (World.block_lt_of_cell? w _ HX.out.2.1)).trans HX.out.2.1
  have a2_3 : w3.cell? _ = _ := (HB3.out.cell (World.block_lt_of_cell? w _ HX.out.2.2.1)).trans HX.out.2.2.1
  have a3_3 : w3.cell? _ = _ := (HB3.out.cell (World.block_lt_of_cell? w _ HX.out.2.2.2)).trans HX.out.2.2.2
  go_wp2_with fail
  refine (HF.out _ HB3.out).mono ?_
  rintro e w4 ⟨rfl, hb⟩
  clear a0_3 a1_3 a2_3 a3_3
  have HB4 : Hid (Below w.heap.size w w4) := below_step HB3.out hb
  clear hb HB3
  have a0_4 : w4.cell? _ = _ := (HB4.out.cell (World.block_lt_of_cell? w _ HX.out.1)).trans HX.out.1
  have a1_4 : w4.cell? _ = _ := (HB4.out.cell (World.block_lt_of_cell? w _ HX.out.2.1)).trans HX.out.2.1
  have a2_4 : w4.cell? _ = _ := (HB4.out.cell (World.block_lt_of_cell? w _ HX.out.2.2.1)).trans HX.out.2.2.1
  have a3_4 : w4.cell? _ = _ := (HB4.out.cell (World.block_lt_of_cell? w _ HX.out.2.2.2)).trans HX.out.2.2.2
  go_wp2_with fail
  refine (HM.out _).mono ?_
  rintro e w5 ⟨rfl, hb⟩
  clear a0_4 a1_4 a2_4 a3_4
  have HB5 : Hid (Below w.heap.size w w5) := below_step (below_alloc HB4.out _) hb
  have HZ5 : Hid (w5.heap[w4.heap.size]? = some (.cells #[.string x.f0, .int .i64 x.f1, .int .i64 x.f2, .int .i64 x.f3] 27 (0, 0))) := stepH (W := w4.alloc (.cells #[.string x.f0, .int .i64 x.f1, .int .i64 x.f2, .int .i64 x.f3] 27)) (by show (w4.heap.push _)[w4.heap.size]? = _; simp) hb
  have hbz := hb.size
  clear hb
  have a0_5 : w5.cell? _ = _ := (HB5.out.cell (World.block_lt_of_cell? w _ HX.out.1)).trans HX.out.1
  have a1_5 : w5.cell? _ = _ := (HB5.out.cell (World.block_lt_of_cell? w _ HX.out.2.1)).trans HX.out.2.1
  have a2_5 : w5.cell? _ = _ := (HB5.out.cell (World.block_lt_of_cell? w _ HX.out.2.2.1)).trans HX.out.2.2.1
  have a3_5 : w5.cell? _ = _ := (HB5.out.cell (World.block_lt_of_cell? w _ HX.out.2.2.2)).trans HX.out.2.2.2
  have z0_5 : w5.cell? ⟨w4.heap.size, 0, none⟩ = some (.string x.f0) := blk_cell HZ5.out 0
  have z1_5 : w5.cell? ⟨w4.heap.size, 1, none⟩ = some (.int .i64 x.f1) := blk_cell HZ5.out 1
  have z2_5 : w5.cell? ⟨w4.heap.size, 2, none⟩ = some (.int .i64 x.f2) := blk_cell HZ5.out 2
  have z3_5 : w5.cell? ⟨w4.heap.size, 3, none⟩ = some (.int .i64 x.f3) := blk_cell HZ5.out 3
  go_wp2_with fail
  refine (HM.out _).mono ?_
  rintro e w6 ⟨rfl, hb⟩
  clear a0_5 a1_5 a2_5 a3_5
  clear z0_5 z1_5 z2_5 z3_5
  have HB6 : Hid (Below w.heap.size w w6) := below_step HB5.out hb
  have HZ6 : Hid (w6.heap[w4.heap.size]? = some (.cells #[.string x.f0, .int .i64 x.f1, .int .i64 x.f2, .int .i64 x.f3] 27 (0, 0))) := stepH HZ5.out hb
  clear hb HB5 HZ5
  have a0_6 : w6.cell? _ = _ := (HB6.out.cell (World.block_lt_of_cell? w _ HX.out.1)).trans HX.out.1
  have a1_6 : w6.cell? _ = _ := (HB6.out.cell (World.block_lt_of_cell? w _ HX.out.2.1)).trans HX.out.2.1
  have a2_6 : w6.cell? _ = _ := (HB6.out.cell (World.block_lt_of_cell? w _ HX.out.2.2.1)).trans HX.out.2.2.1
  have a3_6 : w6.cell? _ = _ := (HB6.out.cell (World.block_lt_of_cell? w _ HX.out.2.2.2)).trans HX.out.2.2.2
  have z0_6 : w6.cell? ⟨w4.heap.size, 0, none⟩ = some (.string x.f0) := blk_cell HZ6.out 0
  have z1_6 : w6.cell? ⟨w4.heap.size, 1, none⟩ = some (.int .i64 x.f1) := blk_cell HZ6.out 1
  have z2_6 : w6.cell? ⟨w4.heap.size, 2, none⟩ = some (.int .i64 x.f2) := blk_cell HZ6.out 2
  have z3_6 : w6.cell? ⟨w4.heap.size, 3, none⟩ = some (.int .i64 x.f3) := blk_cell HZ6.out 3
  go_wp2_with fail
  go_ret2
  refine ⟨_, rfl, Kd.V_mono (Kd.V_below HV.out ?_) (fun _ hk => .inl hk), ?_⟩
  all_goals repeat (first | exact HB6.out | refine below_alloc ?_ _)

set_option maxHeartbeats 8000000 in
set_option maxRecDepth 100000 in
theorem flip_s_a (P0 : Nat → Prop) (A : Option Addr) (c : Nat) (l : List S27) (p : ByteArray) (ep d : Int) (w : World) (hv : Kd.V k27 27 w w.heap.size P0 (.slice A l.length c) l) (hr : Kd.C k27 w A l.length l) (hc : l.length ≤ c)
    (h1 : mounts_Right.f (l.length + 10) l = some true) (h2 : path_Right.f p = some true) (h3 : mounts_group.f d = some true) (h32 : l.length ≤ 32) (ho : own_ p l = true) (hq : ((rd_T27 l (at_ p l : Nat)).f3 != d) = false) (hm : movB (rd_T27 l (at_ p l : Nat)) = false) (he : decide ((rd_T27 l (at_ p l : Nat)).f2 < 1) = true) :
    Calls Try.prog 13 #[.slice A l.length c, .string p, .int .i64 ep, .int .i64 d] w (PostF w P0 l 133) := by
  have HR := Lib.hid (fun W (hW : Below w.heap.size w W) => mounts_Right.calls (l.length + 10) A c l true W (Kd.C_below hr hW) hc h1)
  have HP := Lib.hid (fun W => path_Right.calls p true W h2)
  have HG := Lib.hid (fun W => (mounts_group.calls d true W h3).mono (fun e w' (h : _ ∧ _) => And.intro h.1 h.2.below))
  have HF := Lib.hid (fun W (hW : Below w.heap.size w W) => find_calls A c l p W (Kd.C_below hr hW) (by omega))
  have HCL := Lib.hid (fun W (hW : Below w.heap.size w W) => CMount.clone_calls A c l W (Kd.C_below hr hW) (by omega))
  have HV := Lib.hid hv
  rw [ho] at HF
  have hlt : at_ p l < l.length := by
    have : (decide (at_ p l < l.length) && decide (cmpP p (rd_T27 l (at_ p l : Nat)) = 0)) = true := ho
    simp at this
    exact this.1
  obtain ⟨ad, ea, hx0, hx1, hx2, hx3⟩ := at_T27 hr (at_ p l : Nat) (by omega) (by omega)
  simp only [Int.toNat_natCast] at hx0 hx1 hx2 hx3
  obtain ⟨i, hi⟩ : ∃ i, at_ p l = i := ⟨_, rfl⟩
  rw [hi] at HF hx0 hx1 hx2 hx3 hlt hq hm he
  (try rw [hi])
  obtain ⟨x, hxx⟩ : ∃ x, rd_T27 l (i : Nat) = x := ⟨_, rfl⟩
  rw [hxx] at hx0 hx1 hx2 hx3 hq hm he
  (try rw [hxx])
  have HX := Lib.hid (And.intro hx0 (And.intro hx1 (And.intro hx2 hx3)))
  obtain ⟨n, hn⟩ : ∃ n, l.length = n := ⟨_, rfl⟩
  have HN := Lib.hid hn
  rw [hn] at HR HF HCL HV hlt h32 ⊢
  have hlz : (i : Int) < (n : Int) := by omega
  clear hr hc h1 h2 h3 ho hv hx0 hx1 hx2 hx3 hi hxx
  cases ea
  obtain ⟨mv, hmv⟩ : ∃ mv, movB x = mv := ⟨_, rfl⟩
  have HM := Lib.hid (fun W => moves_is x mv hmv W)
  rw [hmv] at hm
  clear hmv
  subst hm
  go_enter Try.func13, Try.ntmps13
  go_wp2_with fail
  refine (HR.out _ (Below.refl _ _)).mono ?_
  rintro e w1 ⟨rfl, hb⟩
  have HB1 : Hid (Below w.heap.size w w1) := hb
  clear hb
  have a0_1 : w1.cell? _ = _ := (HB1.out.cell (World.block_lt_of_cell? w _ HX.out.1)).trans HX.out.1
  have a1_1 : w1.cell? _ = _ := (HB1.out.cell (World.block_lt_of_cell? w _ HX.out.2.1)).trans HX.out.2.1
  have a2_1 : w1.cell? _ = _ := (HB1.out.cell (World.block_lt_of_cell? w _ HX.out.2.2.1)).trans HX.out.2.2.1
  have a3_1 : w1.cell? _ = _ := (HB1.out.cell (World.block_lt_of_cell? w _ HX.out.2.2.2)).trans HX.out.2.2.2
  go_wp2_with fail
  refine (HP.out _).mono ?_
  rintro e w2 ⟨rfl, hb⟩
  clear a0_1 a1_1 a2_1 a3_1
  have HB2 : Hid (Below w.heap.size w w2) := below_step HB1.out hb
  clear hb HB1
  have a0_2 : w2.cell? _ = _ := (HB2.out.cell (World.block_lt_of_cell? w _ HX.out.1)).trans HX.out.1
  have a1_2 : w2.cell? _ = _ := (HB2.out.cell (World.block_lt_of_cell? w _ HX.out.2.1)).trans HX.out.2.1
  have a2_2 : w2.cell? _ = _ := (HB2.out.cell (World.block_lt_of_cell? w _ HX.out.2.2.1)).trans HX.out.2.2.1
  have a3_2 : w2.cell? _ = _ := (HB2.out.cell (World.block_lt_of_cell? w _ HX.out.2.2.2)).trans HX.out.2.2.2
  go_wp2_with fail
  refine (HG.out _).mono ?_
  rintro e w3 ⟨rfl, hb⟩
  clear a0_2 a1_2 a2_2 a3_2
  have HB3 : Hid (Below w.heap.size w w3) := below_step HB2.out hb
  clear hb HB2
  have a0_3 : w3.cell? _ = _ := (HB3.out.cell (World.block_lt_of_cell? w _ HX.out.1)).trans HX.out.1
  have a1_3 : w3.cell? _ = _ := (HB3.out.cell (World.block_lt_of_cell? w _ HX.out.2.1)).trans HX.out.2.1
  have a2_3 : w3.cell? _ = _ := (HB3.out.cell (World.block_lt_of_cell? w _ HX.out.2.2.1)).trans HX.out.2.2.1
  have a3_3 : w3.cell? _ = _ := (HB3.out.cell (World.block_lt_of_cell? w _ HX.out.2.2.2)).trans HX.out.2.2.2
  go_wp2_with fail
  refine (HF.out _ HB3.out).mono ?_
  rintro e w4 ⟨rfl, hb⟩
  clear a0_3 a1_3 a2_3 a3_3
  have HB4 : Hid (Below w.heap.size w w4) := below_step HB3.out hb
  clear hb HB3
  have a0_4 : w4.cell? _ = _ := (HB4.out.cell (World.block_lt_of_cell? w _ HX.out.1)).trans HX.out.1
  have a1_4 : w4.cell? _ = _ := (HB4.out.cell (World.block_lt_of_cell? w _ HX.out.2.1)).trans HX.out.2.1
  have a2_4 : w4.cell? _ = _ := (HB4.out.cell (World.block_lt_of_cell? w _ HX.out.2.2.1)).trans HX.out.2.2.1
  have a3_4 : w4.cell? _ = _ := (HB4.out.cell (World.block_lt_of_cell? w _ HX.out.2.2.2)).trans HX.out.2.2.2
  go_wp2_with fail
  refine (HM.out _).mono ?_
  rintro e w5 ⟨rfl, hb⟩
  clear a0_4 a1_4 a2_4 a3_4
  have HB5 : Hid (Below w.heap.size w w5) := below_step (below_alloc HB4.out _) hb
  have HZ5 : Hid (w5.heap[w4.heap.size]? = some (.cells #[.string x.f0, .int .i64 x.f1, .int .i64 x.f2, .int .i64 x.f3] 27 (0, 0))) := stepH (W := w4.alloc (.cells #[.string x.f0, .int .i64 x.f1, .int .i64 x.f2, .int .i64 x.f3] 27)) (by show (w4.heap.push _)[w4.heap.size]? = _; simp) hb
  have hbz := hb.size
  clear hb
  have a0_5 : w5.cell? _ = _ := (HB5.out.cell (World.block_lt_of_cell? w _ HX.out.1)).trans HX.out.1
  have a1_5 : w5.cell? _ = _ := (HB5.out.cell (World.block_lt_of_cell? w _ HX.out.2.1)).trans HX.out.2.1
  have a2_5 : w5.cell? _ = _ := (HB5.out.cell (World.block_lt_of_cell? w _ HX.out.2.2.1)).trans HX.out.2.2.1
  have a3_5 : w5.cell? _ = _ := (HB5.out.cell (World.block_lt_of_cell? w _ HX.out.2.2.2)).trans HX.out.2.2.2
  have z0_5 : w5.cell? ⟨w4.heap.size, 0, none⟩ = some (.string x.f0) := blk_cell HZ5.out 0
  have z1_5 : w5.cell? ⟨w4.heap.size, 1, none⟩ = some (.int .i64 x.f1) := blk_cell HZ5.out 1
  have z2_5 : w5.cell? ⟨w4.heap.size, 2, none⟩ = some (.int .i64 x.f2) := blk_cell HZ5.out 2
  have z3_5 : w5.cell? ⟨w4.heap.size, 3, none⟩ = some (.int .i64 x.f3) := blk_cell HZ5.out 3
  go_wp2_with fail
  refine (HM.out _).mono ?_
  rintro e w6 ⟨rfl, hb⟩
  clear a0_5 a1_5 a2_5 a3_5
  clear z0_5 z1_5 z2_5 z3_5
  have HB6 : Hid (Below w.heap.size w w6) := below_step HB5.out hb
  have HZ6 : Hid (w6.heap[w4.heap.size]? = some (.cells #[.string x.f0, .int .i64 x.f1, .int .i64 x.f2, .int .i64 x.f3] 27 (0, 0))) := stepH HZ5.out hb
  clear hb HB5 HZ5
  have a0_6 : w6.cell? _ = _ := (HB6.out.cell (World.block_lt_of_cell? w _ HX.out.1)).trans HX.out.1
  have a1_6 : w6.cell? _ = _ := (HB6.out.cell (World.block_lt_of_cell? w _ HX.out.2.1)).trans HX.out.2.1
  have a2_6 : w6.cell? _ = _ := (HB6.out.cell (World.block_lt_of_cell? w _ HX.out.2.2.1)).trans HX.out.2.2.1
  have a3_6 : w6.cell? _ = _ := (HB6.out.cell (World.block_lt_of_cell? w _ HX.out.2.2.2)).trans HX.out.2.2.2
  have z0_6 : w6.cell? ⟨w4.heap.size, 0, none⟩ = some (.string x.f0) := blk_cell HZ6.out 0
  have z1_6 : w6.cell? ⟨w4.heap.size, 1, none⟩ = some (.int .i64 x.f1) := blk_cell HZ6.out 1
  have z2_6 : w6.cell? ⟨w4.heap.size, 2, none⟩ = some (.int .i64 x.f2) := blk_cell HZ6.out 2
  have z3_6 : w6.cell? ⟨w4.heap.size, 3, none⟩ = some (.int .i64 x.f3) := blk_cell HZ6.out 3
  go_wp2_with fail
  go_ret2
  refine ⟨_, rfl, Kd.V_mono (Kd.V_below HV.out ?_) (fun _ hk => .inl hk), ?_⟩
  all_goals repeat (first | exact HB6.out | refine below_alloc ?_ _)

set_option maxHeartbeats 8000000 in
set_option maxRecDepth 100000 in
theorem flip_s_b (P0 : Nat → Prop) (A : Option Addr) (c : Nat) (l : List S27) (p : ByteArray) (ep d : Int) (w : World) (hv : Kd.V k27 27 w w.heap.size P0 (.slice A l.length c) l) (hr : Kd.C k27 w A l.length l) (hc : l.length ≤ c)
    (h1 : mounts_Right.f (l.length + 10) l = some true) (h2 : path_Right.f p = some true) (h3 : mounts_group.f d = some true) (h32 : l.length ≤ 32) (ho : own_ p l = true) (hq : ((rd_T27 l (at_ p l : Nat)).f3 != d) = false) (hm : movB (rd_T27 l (at_ p l : Nat)) = false) (he : decide ((rd_T27 l (at_ p l : Nat)).f2 < 1) = false) (hu : (wrap64 ((rd_T27 l (at_ p l : Nat)).f2 - 1) != ep) = true) :
    Calls Try.prog 13 #[.slice A l.length c, .string p, .int .i64 ep, .int .i64 d] w (PostF w P0 l 133) := by
  have HR := Lib.hid (fun W (hW : Below w.heap.size w W) => mounts_Right.calls (l.length + 10) A c l true W (Kd.C_below hr hW) hc h1)
  have HP := Lib.hid (fun W => path_Right.calls p true W h2)
  have HG := Lib.hid (fun W => (mounts_group.calls d true W h3).mono (fun e w' (h : _ ∧ _) => And.intro h.1 h.2.below))
  have HF := Lib.hid (fun W (hW : Below w.heap.size w W) => find_calls A c l p W (Kd.C_below hr hW) (by omega))
  have HCL := Lib.hid (fun W (hW : Below w.heap.size w W) => CMount.clone_calls A c l W (Kd.C_below hr hW) (by omega))
  have HV := Lib.hid hv
  rw [ho] at HF
  have hlt : at_ p l < l.length := by
    have : (decide (at_ p l < l.length) && decide (cmpP p (rd_T27 l (at_ p l : Nat)) = 0)) = true := ho
    simp at this
    exact this.1
  obtain ⟨ad, ea, hx0, hx1, hx2, hx3⟩ := at_T27 hr (at_ p l : Nat) (by omega) (by omega)
  simp only [Int.toNat_natCast] at hx0 hx1 hx2 hx3
  obtain ⟨i, hi⟩ : ∃ i, at_ p l = i := ⟨_, rfl⟩
  rw [hi] at HF hx0 hx1 hx2 hx3 hlt hq hm he hu
  (try rw [hi])
  obtain ⟨x, hxx⟩ : ∃ x, rd_T27 l (i : Nat) = x := ⟨_, rfl⟩
  rw [hxx] at hx0 hx1 hx2 hx3 hq hm he hu
  (try rw [hxx])
  have HX := Lib.hid (And.intro hx0 (And.intro hx1 (And.intro hx2 hx3)))
  obtain ⟨n, hn⟩ : ∃ n, l.length = n := ⟨_, rfl⟩
  have HN := Lib.hid hn
  rw [hn] at HR HF HCL HV hlt h32 ⊢
  have hlz : (i : Int) < (n : Int) := by omega
  clear hr hc h1 h2 h3 ho hv hx0 hx1 hx2 hx3 hi hxx
  cases ea
  obtain ⟨mv, hmv⟩ : ∃ mv, movB x = mv := ⟨_, rfl⟩
  have HM := Lib.hid (fun W => moves_is x mv hmv W)
  rw [hmv] at hm
  clear hmv
  subst hm
  go_enter Try.func13, Try.ntmps13
  go_wp2_with fail
  refine (HR.out _ (Below.refl _ _)).mono ?_
  rintro e w1 ⟨rfl, hb⟩
  have HB1 : Hid (Below w.heap.size w w1) := hb
  clear hb
  have a0_1 : w1.cell? _ = _ := (HB1.out.cell (World.block_lt_of_cell? w _ HX.out.1)).trans HX.out.1
  have a1_1 : w1.cell? _ = _ := (HB1.out.cell (World.block_lt_of_cell? w _ HX.out.2.1)).trans HX.out.2.1
  have a2_1 : w1.cell? _ = _ := (HB1.out.cell (World.block_lt_of_cell? w _ HX.out.2.2.1)).trans HX.out.2.2.1
  have a3_1 : w1.cell? _ = _ := (HB1.out.cell (World.block_lt_of_cell? w _ HX.out.2.2.2)).trans HX.out.2.2.2
  go_wp2_with fail
  refine (HP.out _).mono ?_
  rintro e w2 ⟨rfl, hb⟩
  clear a0_1 a1_1 a2_1 a3_1
  have HB2 : Hid (Below w.heap.size w w2) := below_step HB1.out hb
  clear hb HB1
  have a0_2 : w2.cell? _ = _ := (HB2.out.cell (World.block_lt_of_cell? w _ HX.out.1)).trans HX.out.1
  have a1_2 : w2.cell? _ = _ := (HB2.out.cell (World.block_lt_of_cell? w _ HX.out.2.1)).trans HX.out.2.1
  have a2_2 : w2.cell? _ = _ := (HB2.out.cell (World.block_lt_of_cell? w _ HX.out.2.2.1)).trans HX.out.2.2.1
  have a3_2 : w2.cell? _ = _ := (HB2.out.cell (World.block_lt_of_cell? w _ HX.out.2.2.2)).trans HX.out.2.2.2
  go_wp2_with fail
  refine (HG.out _).mono ?_
  rintro e w3 ⟨rfl, hb⟩
  clear a0_2 a1_2 a2_2 a3_2
  have HB3 : Hid (Below w.heap.size w w3) := below_step HB2.out hb
  clear hb HB2
  have a0_3 : w3.cell? _ = _ := (HB3.out.cell (World.block_lt_of_cell? w _ HX.out.1)).trans HX.out.1
  have a1_3 : w3.cell? _ = _ := (HB3.out.cell (World.block_lt_of_cell? w _ HX.out.2.1)).trans HX.out.2.1
  have a2_3 : w3.cell? _ = _ := (HB3.out.cell (World.block_lt_of_cell? w _ HX.out.2.2.1)).trans HX.out.2.2.1
  have a3_3 : w3.cell? _ = _ := (HB3.out.cell (World.block_lt_of_cell? w _ HX.out.2.2.2)).trans HX.out.2.2.2
  go_wp2_with fail
  refine (HF.out _ HB3.out).mono ?_
  rintro e w4 ⟨rfl, hb⟩
  clear a0_3 a1_3 a2_3 a3_3
  have HB4 : Hid (Below w.heap.size w w4) := below_step HB3.out hb
  clear hb HB3
  have a0_4 : w4.cell? _ = _ := (HB4.out.cell (World.block_lt_of_cell? w _ HX.out.1)).trans HX.out.1
  have a1_4 : w4.cell? _ = _ := (HB4.out.cell (World.block_lt_of_cell? w _ HX.out.2.1)).trans HX.out.2.1
  have a2_4 : w4.cell? _ = _ := (HB4.out.cell (World.block_lt_of_cell? w _ HX.out.2.2.1)).trans HX.out.2.2.1
  have a3_4 : w4.cell? _ = _ := (HB4.out.cell (World.block_lt_of_cell? w _ HX.out.2.2.2)).trans HX.out.2.2.2
  go_wp2_with fail
  refine (HM.out _).mono ?_
  rintro e w5 ⟨rfl, hb⟩
  clear a0_4 a1_4 a2_4 a3_4
  have HB5 : Hid (Below w.heap.size w w5) := below_step (below_alloc HB4.out _) hb
  have HZ5 : Hid (w5.heap[w4.heap.size]? = some (.cells #[.string x.f0, .int .i64 x.f1, .int .i64 x.f2, .int .i64 x.f3] 27 (0, 0))) := stepH (W := w4.alloc (.cells #[.string x.f0, .int .i64 x.f1, .int .i64 x.f2, .int .i64 x.f3] 27)) (by show (w4.heap.push _)[w4.heap.size]? = _; simp) hb
  have hbz := hb.size
  clear hb
  have a0_5 : w5.cell? _ = _ := (HB5.out.cell (World.block_lt_of_cell? w _ HX.out.1)).trans HX.out.1
  have a1_5 : w5.cell? _ = _ := (HB5.out.cell (World.block_lt_of_cell? w _ HX.out.2.1)).trans HX.out.2.1
  have a2_5 : w5.cell? _ = _ := (HB5.out.cell (World.block_lt_of_cell? w _ HX.out.2.2.1)).trans HX.out.2.2.1
  have a3_5 : w5.cell? _ = _ := (HB5.out.cell (World.block_lt_of_cell? w _ HX.out.2.2.2)).trans HX.out.2.2.2
  have z0_5 : w5.cell? ⟨w4.heap.size, 0, none⟩ = some (.string x.f0) := blk_cell HZ5.out 0
  have z1_5 : w5.cell? ⟨w4.heap.size, 1, none⟩ = some (.int .i64 x.f1) := blk_cell HZ5.out 1
  have z2_5 : w5.cell? ⟨w4.heap.size, 2, none⟩ = some (.int .i64 x.f2) := blk_cell HZ5.out 2
  have z3_5 : w5.cell? ⟨w4.heap.size, 3, none⟩ = some (.int .i64 x.f3) := blk_cell HZ5.out 3
  go_wp2_with fail
  refine (HM.out _).mono ?_
  rintro e w6 ⟨rfl, hb⟩
  clear a0_5 a1_5 a2_5 a3_5
  clear z0_5 z1_5 z2_5 z3_5
  have HB6 : Hid (Below w.heap.size w w6) := below_step HB5.out hb
  have HZ6 : Hid (w6.heap[w4.heap.size]? = some (.cells #[.string x.f0, .int .i64 x.f1, .int .i64 x.f2, .int .i64 x.f3] 27 (0, 0))) := stepH HZ5.out hb
  clear hb HB5 HZ5
  have a0_6 : w6.cell? _ = _ := (HB6.out.cell (World.block_lt_of_cell? w _ HX.out.1)).trans HX.out.1
  have a1_6 : w6.cell? _ = _ := (HB6.out.cell (World.block_lt_of_cell? w _ HX.out.2.1)).trans HX.out.2.1
  have a2_6 : w6.cell? _ = _ := (HB6.out.cell (World.block_lt_of_cell? w _ HX.out.2.2.1)).trans HX.out.2.2.1
  have a3_6 : w6.cell? _ = _ := (HB6.out.cell (World.block_lt_of_cell? w _ HX.out.2.2.2)).trans HX.out.2.2.2
  have z0_6 : w6.cell? ⟨w4.heap.size, 0, none⟩ = some (.string x.f0) := blk_cell HZ6.out 0
  have z1_6 : w6.cell? ⟨w4.heap.size, 1, none⟩ = some (.int .i64 x.f1) := blk_cell HZ6.out 1
  have z2_6 : w6.cell? ⟨w4.heap.size, 2, none⟩ = some (.int .i64 x.f2) := blk_cell HZ6.out 2
  have z3_6 : w6.cell? ⟨w4.heap.size, 3, none⟩ = some (.int .i64 x.f3) := blk_cell HZ6.out 3
  go_wp2_with fail
  go_ret2
  refine ⟨_, rfl, Kd.V_mono (Kd.V_below HV.out ?_) (fun _ hk => .inl hk), ?_⟩
  all_goals repeat (first | exact HB6.out | refine below_alloc ?_ _)

set_option maxHeartbeats 8000000 in
set_option maxRecDepth 100000 in
theorem flip_s_c (P0 : Nat → Prop) (A : Option Addr) (c : Nat) (l : List S27) (p : ByteArray) (ep d : Int) (w : World) (hv : Kd.V k27 27 w w.heap.size P0 (.slice A l.length c) l) (hr : Kd.C k27 w A l.length l) (hc : l.length ≤ c)
    (h1 : mounts_Right.f (l.length + 10) l = some true) (h2 : path_Right.f p = some true) (h3 : mounts_group.f d = some true) (h32 : l.length ≤ 32) (ho : own_ p l = true) (hq : ((rd_T27 l (at_ p l : Nat)).f3 != d) = false) (hm : movB (rd_T27 l (at_ p l : Nat)) = false) (he : decide ((rd_T27 l (at_ p l : Nat)).f2 < 1) = false) (hu : (wrap64 ((rd_T27 l (at_ p l : Nat)).f2 - 1) != ep) = false) :
    Calls Try.prog 13 #[.slice A l.length c, .string p, .int .i64 ep, .int .i64 d] w (PostF w P0 l 0) := by
  have HR := Lib.hid (fun W (hW : Below w.heap.size w W) => mounts_Right.calls (l.length + 10) A c l true W (Kd.C_below hr hW) hc h1)
  have HP := Lib.hid (fun W => path_Right.calls p true W h2)
  have HG := Lib.hid (fun W => (mounts_group.calls d true W h3).mono (fun e w' (h : _ ∧ _) => And.intro h.1 h.2.below))
  have HF := Lib.hid (fun W (hW : Below w.heap.size w W) => find_calls A c l p W (Kd.C_below hr hW) (by omega))
  have HCL := Lib.hid (fun W (hW : Below w.heap.size w W) => CMount.clone_calls A c l W (Kd.C_below hr hW) (by omega))
  have HV := Lib.hid hv
  rw [ho] at HF
  have hlt : at_ p l < l.length := by
    have : (decide (at_ p l < l.length) && decide (cmpP p (rd_T27 l (at_ p l : Nat)) = 0)) = true := ho
    simp at this
    exact this.1
  obtain ⟨ad, ea, hx0, hx1, hx2, hx3⟩ := at_T27 hr (at_ p l : Nat) (by omega) (by omega)
  simp only [Int.toNat_natCast] at hx0 hx1 hx2 hx3
  obtain ⟨i, hi⟩ : ∃ i, at_ p l = i := ⟨_, rfl⟩
  rw [hi] at HF hx0 hx1 hx2 hx3 hlt hq hm he hu
  (try rw [hi])
  obtain ⟨x, hxx⟩ : ∃ x, rd_T27 l (i : Nat) = x := ⟨_, rfl⟩
  rw [hxx] at hx0 hx1 hx2 hx3 hq hm he hu
  (try rw [hxx])
  have HX := Lib.hid (And.intro hx0 (And.intro hx1 (And.intro hx2 hx3)))
  obtain ⟨n, hn⟩ : ∃ n, l.length = n := ⟨_, rfl⟩
  have HN := Lib.hid hn
  rw [hn] at HR HF HCL HV hlt h32 ⊢
  have hlz : (i : Int) < (n : Int) := by omega
  clear hr hc h1 h2 h3 ho hv hx0 hx1 hx2 hx3 hi hxx
  cases ea
  obtain ⟨mv, hmv⟩ : ∃ mv, movB x = mv := ⟨_, rfl⟩
  have HM := Lib.hid (fun W => moves_is x mv hmv W)
  rw [hmv] at hm
  clear hmv
  subst hm
  go_enter Try.func13, Try.ntmps13
  go_wp2_with fail
  refine (HR.out _ (Below.refl _ _)).mono ?_
  rintro e w1 ⟨rfl, hb⟩
  have HB1 : Hid (Below w.heap.size w w1) := hb
  clear hb
  have a0_1 : w1.cell? _ = _ := (HB1.out.cell (World.block_lt_of_cell? w _ HX.out.1)).trans HX.out.1
  have a1_1 : w1.cell? _ = _ := (HB1.out.cell (World.block_lt_of_cell? w _ HX.out.2.1)).trans HX.out.2.1
  have a2_1 : w1.cell? _ = _ := (HB1.out.cell (World.block_lt_of_cell? w _ HX.out.2.2.1)).trans HX.out.2.2.1
  have a3_1 : w1.cell? _ = _ := (HB1.out.cell (World.block_lt_of_cell? w _ HX.out.2.2.2)).trans HX.out.2.2.2
  go_wp2_with fail
  refine (HP.out _).mono ?_
  rintro e w2 ⟨rfl, hb⟩
  clear a0_1 a1_1 a2_1 a3_1
  have HB2 : Hid (Below w.heap.size w w2) := below_step HB1.out hb
  clear hb HB1
  have a0_2 : w2.cell? _ = _ := (HB2.out.cell (World.block_lt_of_cell? w _ HX.out.1)).trans HX.out.1
  have a1_2 : w2.cell? _ = _ := (HB2.out.cell (World.block_lt_of_cell? w _ HX.out.2.1)).trans HX.out.2.1
  have a2_2 : w2.cell? _ = _ := (HB2.out.cell (World.block_lt_of_cell? w _ HX.out.2.2.1)).trans HX.out.2.2.1
  have a3_2 : w2.cell? _ = _ := (HB2.out.cell (World.block_lt_of_cell? w _ HX.out.2.2.2)).trans HX.out.2.2.2
  go_wp2_with fail
  refine (HG.out _).mono ?_
  rintro e w3 ⟨rfl, hb⟩
  clear a0_2 a1_2 a2_2 a3_2
  have HB3 : Hid (Below w.heap.size w w3) := below_step HB2.out hb
  clear hb HB2
  have a0_3 : w3.cell? _ = _ := (HB3.out.cell (World.block_lt_of_cell? w _ HX.out.1)).trans HX.out.1
  have a1_3 : w3.cell? _ = _ := (HB3.out.cell (World.block_lt_of_cell? w _ HX.out.2.1)).trans HX.out.2.1
  have a2_3 : w3.cell? _ = _ := (HB3.out.cell (World.block_lt_of_cell? w _ HX.out.2.2.1)).trans HX.out.2.2.1
  have a3_3 : w3.cell? _ = _ := (HB3.out.cell (World.block_lt_of_cell? w _ HX.out.2.2.2)).trans HX.out.2.2.2
  go_wp2_with fail
  refine (HF.out _ HB3.out).mono ?_
  rintro e w4 ⟨rfl, hb⟩
  clear a0_3 a1_3 a2_3 a3_3
  have HB4 : Hid (Below w.heap.size w w4) := below_step HB3.out hb
  clear hb HB3
  have a0_4 : w4.cell? _ = _ := (HB4.out.cell (World.block_lt_of_cell? w _ HX.out.1)).trans HX.out.1
  have a1_4 : w4.cell? _ = _ := (HB4.out.cell (World.block_lt_of_cell? w _ HX.out.2.1)).trans HX.out.2.1
  have a2_4 : w4.cell? _ = _ := (HB4.out.cell (World.block_lt_of_cell? w _ HX.out.2.2.1)).trans HX.out.2.2.1
  have a3_4 : w4.cell? _ = _ := (HB4.out.cell (World.block_lt_of_cell? w _ HX.out.2.2.2)).trans HX.out.2.2.2
  go_wp2_with fail
  refine (HM.out _).mono ?_
  rintro e w5 ⟨rfl, hb⟩
  clear a0_4 a1_4 a2_4 a3_4
  have HB5 : Hid (Below w.heap.size w w5) := below_step (below_alloc HB4.out _) hb
  have HZ5 : Hid (w5.heap[w4.heap.size]? = some (.cells #[.string x.f0, .int .i64 x.f1, .int .i64 x.f2, .int .i64 x.f3] 27 (0, 0))) := stepH (W := w4.alloc (.cells #[.string x.f0, .int .i64 x.f1, .int .i64 x.f2, .int .i64 x.f3] 27)) (by show (w4.heap.push _)[w4.heap.size]? = _; simp) hb
  have hbz := hb.size
  clear hb
  have a0_5 : w5.cell? _ = _ := (HB5.out.cell (World.block_lt_of_cell? w _ HX.out.1)).trans HX.out.1
  have a1_5 : w5.cell? _ = _ := (HB5.out.cell (World.block_lt_of_cell? w _ HX.out.2.1)).trans HX.out.2.1
  have a2_5 : w5.cell? _ = _ := (HB5.out.cell (World.block_lt_of_cell? w _ HX.out.2.2.1)).trans HX.out.2.2.1
  have a3_5 : w5.cell? _ = _ := (HB5.out.cell (World.block_lt_of_cell? w _ HX.out.2.2.2)).trans HX.out.2.2.2
  have z0_5 : w5.cell? ⟨w4.heap.size, 0, none⟩ = some (.string x.f0) := blk_cell HZ5.out 0
  have z1_5 : w5.cell? ⟨w4.heap.size, 1, none⟩ = some (.int .i64 x.f1) := blk_cell HZ5.out 1
  have z2_5 : w5.cell? ⟨w4.heap.size, 2, none⟩ = some (.int .i64 x.f2) := blk_cell HZ5.out 2
  have z3_5 : w5.cell? ⟨w4.heap.size, 3, none⟩ = some (.int .i64 x.f3) := blk_cell HZ5.out 3
  go_wp2_with fail
  refine (HM.out _).mono ?_
  rintro e w6 ⟨rfl, hb⟩
  clear a0_5 a1_5 a2_5 a3_5
  clear z0_5 z1_5 z2_5 z3_5
  have HB6 : Hid (Below w.heap.size w w6) := below_step HB5.out hb
  have HZ6 : Hid (w6.heap[w4.heap.size]? = some (.cells #[.string x.f0, .int .i64 x.f1, .int .i64 x.f2, .int .i64 x.f3] 27 (0, 0))) := stepH HZ5.out hb
  clear hb HB5 HZ5
  have a0_6 : w6.cell? _ = _ := (HB6.out.cell (World.block_lt_of_cell? w _ HX.out.1)).trans HX.out.1
  have a1_6 : w6.cell? _ = _ := (HB6.out.cell (World.block_lt_of_cell? w _ HX.out.2.1)).trans HX.out.2.1
  have a2_6 : w6.cell? _ = _ := (HB6.out.cell (World.block_lt_of_cell? w _ HX.out.2.2.1)).trans HX.out.2.2.1
  have a3_6 : w6.cell? _ = _ := (HB6.out.cell (World.block_lt_of_cell? w _ HX.out.2.2.2)).trans HX.out.2.2.2
  have z0_6 : w6.cell? ⟨w4.heap.size, 0, none⟩ = some (.string x.f0) := blk_cell HZ6.out 0
  have z1_6 : w6.cell? ⟨w4.heap.size, 1, none⟩ = some (.int .i64 x.f1) := blk_cell HZ6.out 1
  have z2_6 : w6.cell? ⟨w4.heap.size, 2, none⟩ = some (.int .i64 x.f2) := blk_cell HZ6.out 2
  have z3_6 : w6.cell? ⟨w4.heap.size, 3, none⟩ = some (.int .i64 x.f3) := blk_cell HZ6.out 3
  go_wp2_with fail
  go_ret2
  refine ⟨_, rfl, Kd.V_mono (Kd.V_below HV.out ?_) (fun _ hk => .inl hk), ?_⟩
  all_goals repeat (first | exact HB6.out | refine below_alloc ?_ _)

set_option maxHeartbeats 8000000 in
set_option maxRecDepth 100000 in
theorem flip_new (P0 : Nat → Prop) (A : Option Addr) (c : Nat) (l : List S27) (p : ByteArray) (ep d : Int) (w : World) (hv : Kd.V k27 27 w w.heap.size P0 (.slice A l.length c) l) (hr : Kd.C k27 w A l.length l) (hc : l.length ≤ c)
    (h1 : mounts_Right.f (l.length + 10) l = some true) (h2 : path_Right.f p = some true) (h3 : mounts_group.f d = some true) (h32 : l.length ≤ 32) (ho : own_ p l = true) (hq : ((rd_T27 l (at_ p l : Nat)).f3 != d) = false) (hm : movB (rd_T27 l (at_ p l : Nat)) = true) (he : ((rd_T27 l (at_ p l : Nat)).f2 == ep) = true) (hu : decide (ep < 281474976710656) = true) :
    Calls Try.prog 13 #[.slice A l.length c, .string p, .int .i64 ep, .int .i64 d] w (PostF w P0 (l.set (at_ p l) ⟨(rd_T27 l (at_ p l : Nat)).f0, d, wrap64 ((rd_T27 l (at_ p l : Nat)).f2 + 1), (rd_T27 l (at_ p l : Nat)).f3⟩) 0) := by
  have HR := Lib.hid (fun W (hW : Below w.heap.size w W) => mounts_Right.calls (l.length + 10) A c l true W (Kd.C_below hr hW) hc h1)
  have HP := Lib.hid (fun W => path_Right.calls p true W h2)
  have HG := Lib.hid (fun W => (mounts_group.calls d true W h3).mono (fun e w' (h : _ ∧ _) => And.intro h.1 h.2.below))
  have HF := Lib.hid (fun W (hW : Below w.heap.size w W) => find_calls A c l p W (Kd.C_below hr hW) (by omega))
  have HCL := Lib.hid (fun W (hW : Below w.heap.size w W) => CMount.clone_calls A c l W (Kd.C_below hr hW) (by omega))
  have HV := Lib.hid hv
  rw [ho] at HF
  have hlt : at_ p l < l.length := by
    have : (decide (at_ p l < l.length) && decide (cmpP p (rd_T27 l (at_ p l : Nat)) = 0)) = true := ho
    simp at this
    exact this.1
  obtain ⟨ad, ea, hx0, hx1, hx2, hx3⟩ := at_T27 hr (at_ p l : Nat) (by omega) (by omega)
  simp only [Int.toNat_natCast] at hx0 hx1 hx2 hx3
  obtain ⟨i, hi⟩ : ∃ i, at_ p l = i := ⟨_, rfl⟩
  rw [hi] at HF hx0 hx1 hx2 hx3 hlt hq hm he
  (try rw [hi])
  obtain ⟨x, hxx⟩ : ∃ x, rd_T27 l (i : Nat) = x := ⟨_, rfl⟩
  rw [hxx] at hx0 hx1 hx2 hx3 hq hm he
  (try rw [hxx])
  have HXX := Lib.hid hxx
  have HX := Lib.hid (And.intro hx0 (And.intro hx1 (And.intro hx2 hx3)))
  obtain ⟨n, hn⟩ : ∃ n, l.length = n := ⟨_, rfl⟩
  have HN := Lib.hid hn
  rw [hn] at HR HF HCL HV hlt h32 ⊢
  have hlz : (i : Int) < (n : Int) := by omega
  clear hr hc h1 h2 h3 ho hv hx0 hx1 hx2 hx3 hi hxx
  cases ea
  obtain ⟨mv, hmv⟩ : ∃ mv, movB x = mv := ⟨_, rfl⟩
  have HM := Lib.hid (fun W => moves_is x mv hmv W)
  rw [hmv] at hm
  clear hmv
  subst hm
  go_enter Try.func13, Try.ntmps13
  go_wp2_with fail
  refine (HR.out _ (Below.refl _ _)).mono ?_
  rintro e w1 ⟨rfl, hb⟩
  have HB1 : Hid (Below w.heap.size w w1) := hb
  clear hb
  have a0_1 : w1.cell? _ = _ := (HB1.out.cell (World.block_lt_of_cell? w _ HX.out.1)).trans HX.out.1
  have a1_1 : w1.cell? _ = _ := (HB1.out.cell (World.block_lt_of_cell? w _ HX.out.2.1)).trans HX.out.2.1
  have a2_1 : w1.cell? _ = _ := (HB1.out.cell (World.block_lt_of_cell? w _ HX.out.2.2.1)).trans HX.out.2.2.1
  have a3_1 : w1.cell? _ = _ := (HB1.out.cell (World.block_lt_of_cell? w _ HX.out.2.2.2)).trans HX.out.2.2.2
  go_wp2_with fail
  refine (HP.out _).mono ?_
  rintro e w2 ⟨rfl, hb⟩
  clear a0_1 a1_1 a2_1 a3_1
  have HB2 : Hid (Below w.heap.size w w2) := below_step HB1.out hb
  clear hb HB1
  have a0_2 : w2.cell? _ = _ := (HB2.out.cell (World.block_lt_of_cell? w _ HX.out.1)).trans HX.out.1
  have a1_2 : w2.cell? _ = _ := (HB2.out.cell (World.block_lt_of_cell? w _ HX.out.2.1)).trans HX.out.2.1
  have a2_2 : w2.cell? _ = _ := (HB2.out.cell (World.block_lt_of_cell? w _ HX.out.2.2.1)).trans HX.out.2.2.1
  have a3_2 : w2.cell? _ = _ := (HB2.out.cell (World.block_lt_of_cell? w _ HX.out.2.2.2)).trans HX.out.2.2.2
  go_wp2_with fail
  refine (HG.out _).mono ?_
  rintro e w3 ⟨rfl, hb⟩
  clear a0_2 a1_2 a2_2 a3_2
  have HB3 : Hid (Below w.heap.size w w3) := below_step HB2.out hb
  clear hb HB2
  have a0_3 : w3.cell? _ = _ := (HB3.out.cell (World.block_lt_of_cell? w _ HX.out.1)).trans HX.out.1
  have a1_3 : w3.cell? _ = _ := (HB3.out.cell (World.block_lt_of_cell? w _ HX.out.2.1)).trans HX.out.2.1
  have a2_3 : w3.cell? _ = _ := (HB3.out.cell (World.block_lt_of_cell? w _ HX.out.2.2.1)).trans HX.out.2.2.1
  have a3_3 : w3.cell? _ = _ := (HB3.out.cell (World.block_lt_of_cell? w _ HX.out.2.2.2)).trans HX.out.2.2.2
  go_wp2_with fail
  refine (HF.out _ HB3.out).mono ?_
  rintro e w4 ⟨rfl, hb⟩
  clear a0_3 a1_3 a2_3 a3_3
  have HB4 : Hid (Below w.heap.size w w4) := below_step HB3.out hb
  clear hb HB3
  have a0_4 : w4.cell? _ = _ := (HB4.out.cell (World.block_lt_of_cell? w _ HX.out.1)).trans HX.out.1
  have a1_4 : w4.cell? _ = _ := (HB4.out.cell (World.block_lt_of_cell? w _ HX.out.2.1)).trans HX.out.2.1
  have a2_4 : w4.cell? _ = _ := (HB4.out.cell (World.block_lt_of_cell? w _ HX.out.2.2.1)).trans HX.out.2.2.1
  have a3_4 : w4.cell? _ = _ := (HB4.out.cell (World.block_lt_of_cell? w _ HX.out.2.2.2)).trans HX.out.2.2.2
  go_wp2_with fail
  refine (HM.out _).mono ?_
  rintro e w5 ⟨rfl, hb⟩
  clear a0_4 a1_4 a2_4 a3_4
  have HB5 : Hid (Below w.heap.size w w5) := below_step (below_alloc HB4.out _) hb
  have HZ5 : Hid (w5.heap[w4.heap.size]? = some (.cells #[.string x.f0, .int .i64 x.f1, .int .i64 x.f2, .int .i64 x.f3] 27 (0, 0))) := stepH (W := w4.alloc (.cells #[.string x.f0, .int .i64 x.f1, .int .i64 x.f2, .int .i64 x.f3] 27)) (by show (w4.heap.push _)[w4.heap.size]? = _; simp) hb
  have hbz := hb.size
  clear hb
  have a0_5 : w5.cell? _ = _ := (HB5.out.cell (World.block_lt_of_cell? w _ HX.out.1)).trans HX.out.1
  have a1_5 : w5.cell? _ = _ := (HB5.out.cell (World.block_lt_of_cell? w _ HX.out.2.1)).trans HX.out.2.1
  have a2_5 : w5.cell? _ = _ := (HB5.out.cell (World.block_lt_of_cell? w _ HX.out.2.2.1)).trans HX.out.2.2.1
  have a3_5 : w5.cell? _ = _ := (HB5.out.cell (World.block_lt_of_cell? w _ HX.out.2.2.2)).trans HX.out.2.2.2
  have z0_5 : w5.cell? ⟨w4.heap.size, 0, none⟩ = some (.string x.f0) := blk_cell HZ5.out 0
  have z1_5 : w5.cell? ⟨w4.heap.size, 1, none⟩ = some (.int .i64 x.f1) := blk_cell HZ5.out 1
  have z2_5 : w5.cell? ⟨w4.heap.size, 2, none⟩ = some (.int .i64 x.f2) := blk_cell HZ5.out 2
  have z3_5 : w5.cell? ⟨w4.heap.size, 3, none⟩ = some (.int .i64 x.f3) := blk_cell HZ5.out 3
  go_wp2_with fail
  refine (HCL.out _ HB5.out).mono ?_
  rintro e w6 ⟨v, rfl, ho, hb⟩
  have HB6 : Hid (Below w.heap.size w w6) := below_step HB5.out hb
  have HO := Lib.hid ho
  have hbs := HB5.out.size
  clear a0_5 a1_5 a2_5 a3_5
  clear z0_5 z1_5 z2_5 z3_5
  clear ho hb
  have hnp : 0 < l.length := by have := HN.out; omega
  obtain ⟨g, cap, cur, rfl, hg, hnc, hcap, hh⟩ := R_form HO.out hnp
  obtain ⟨ad3, ea3, hc0, hc1, hc2, hc3⟩ := at_T27 (Kd.R_reads' HO.out).2.2 (i : Nat) (by omega) (by have := HN.out; omega)
  cases ea3
  simp only [Int.toNat_natCast, Addr.add_lit, Nat.zero_add] at hc0 hc1 hc2 hc3
  rw [HXX.out] at hc0 hc1 hc2 hc3
  have r0 := blk_frozen hh (i * 4)
  have r1 := blk_frozen hh (i * 4 + 1)
  have r2 := blk_frozen hh (i * 4 + 2)
  have r3 := blk_frozen hh (i * 4 + 3)
  clear hh
  rw [HN.out] at hnc ⊢
  go_wp2_with fail
  have hgB : w.heap.size ≤ g := by omega
  have hil : i < l.length := by have := HN.out; omega
  have H8 := flip_R (d := d) (u := wrap64 (x.f2 + 1)) HO.out hil HXX.out
  rw [HN.out] at H8
  have H9 := Kd.R_mono (ok' := fun k => P0 k ∨ w.heap.size ≤ k) (Kd.R_bound H8) (fun k hk => .inr (Nat.le_trans hbs hk.2.1))
  have b1 := Below.setCell (p := ⟨g, i * 4 + 1, none⟩) HB6.out hgB (.int .i64 d)
  have b2 := Below.setCell (p := ⟨g, i * 4 + 2, none⟩) b1 hgB (.int .i64 (wrap64 (x.f2 + 1)))
  have hV := Kd.R_V (base' := w.heap.size) H9
  go_ret2
  exact ⟨_, rfl, hV, b2⟩
end Go.Proofs.Ytpkaedpgpncgpaa.MBegin
