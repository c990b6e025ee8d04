/- The walk of MountsMove: its loop keeps the mounts that it was handed, and others. -/
import Derived.Test.YtpkaedpgpncgpaaMMove0
import Derived.WalkLawsBesides
import Derived.Lib.Hide
import Derived.Deep.LoopGhost
import Derived.Deep.RegionHeld3
import Derived.IntWalk
import Derived.Test.YtpkaedpgpncgpaaQx6
namespace Go.Proofs.Ytpkaedpgpncgpaa.MMove
open Go Go.RowKit Go.Proofs.Ytpkaedpgpncgpaa.PathF Go.Proofs.Ytpkaedpgpncgpaa.Mnt Go.Proofs.Ytpkaedpgpncgpaa.MBegin Go.Proofs.Ytpkaedpgpncgpaa.Q Go.Proofs.YtpkaedpgpncgpaaW.PrintWords Go.Proofs.YtpkaedpgpncgpaaW.PrintLast Go.Proofs.YtpkaedpgpncgpaaW.PrintMore

set_option linter.unusedVariables false
def PostB (w : World) (r1 : List S) (r2 : ByteArray) (r3 r4 r5 r6 : Int) (e : Ending) (w' : World) : Prop :=
  ∃ (A : Option Addr) (c : Nat), e = .returned (.tuple #[.slice A r1.length c, .agg #[.string r2, .int .i64 r3, .int .i64 r4, .int .i64 r5], .int .i64 r6]) ∧ Hid (r1.length ≤ c) ∧ Hid (Kd.C k27 w' A r1.length r1) ∧ Hid (Below w.heap.size w w')
theorem begin_C (A : Option Addr) (c : Nat) (l : List S) (p : ByteArray) (d : Int) (r1 : List S) (r2 : ByteArray) (r3 r4 r5 r6 : Int) (h : mounts_Begin.f l p d = some (r1, r2, r3, r4, r5, r6)) (hc : l.length ≤ c) (w : World) (hr : Kd.C k27 w A l.length l) :
    Calls Try.prog 12 #[.slice A l.length c, .string p, .int .i64 d] w (PostB w r1 r2 r3 r4 r5 r6) := by
  refine (mounts_Begin.calls (fun k_ => k_ < w.heap.size) A c l p d r1 r2 r3 r4 r5 r6 w (Kd.V_mk hc (Kd.C_F k27_heap hr)) h).mono ?_
  rintro e w' ⟨v, rfl, hv, hb⟩
  obtain ⟨A1, c1, rfl⟩ := Kd.V_slice hv
  have h2 := Kd.V_reads' hv
  exact ⟨A1, c1, rfl, h2.2.1, h2.2.2, hb⟩
def PostF (w : World) (r1 : List S) (r2 : Int) (e : Ending) (w' : World) : Prop :=
  ∃ (A : Option Addr) (c : Nat), e = .returned (.tuple #[.slice A r1.length c, .int .i64 r2]) ∧ Hid (r1.length ≤ c) ∧ Hid (Kd.C k27 w' A r1.length r1) ∧ Hid (Below w.heap.size w w')
theorem flip_C (A : Option Addr) (c : Nat) (l : List S) (p : ByteArray) (ep d : Int) (r1 : List S) (r2 : Int) (h : mounts_Flip.f l p ep d = some (r1, r2)) (hc : l.length ≤ c) (w : World) (hr : Kd.C k27 w A l.length l) :
    Calls Try.prog 13 #[.slice A l.length c, .string p, .int .i64 ep, .int .i64 d] w (PostF w r1 r2) := by
  refine (mounts_Flip.calls (fun k_ => k_ < w.heap.size) A c l p ep d r1 r2 w (Kd.V_mk hc (Kd.C_F k27_heap hr)) h).mono ?_
  rintro e w' ⟨v, rfl, hv, hb⟩
  obtain ⟨A1, c1, rfl⟩ := Kd.V_slice hv
  have h2 := Kd.V_reads' hv
  exact ⟨A1, c1, rfl, h2.2.1, h2.2.2, hb⟩
theorem same_C (A A' : Option Addr) (c c' : Nat) (l : List S) (hl : l.length ≤ 100000) (hc : l.length ≤ c) (hc' : l.length ≤ c') (w : World) (hr : Kd.C k27 w A l.length l) (hr' : Kd.C k27 w A' l.length l) :
    Calls Try.prog 16 #[.slice A l.length c, .slice A' l.length c'] w fun e w' => e = .returned (.bool true) ∧ Below w.heap.size w w' :=
  (cantonref14_Same.calls (l.length + 1) A c l A' c' l true w hr hc hr' hc' (same_self l hl _ (by omega))).mono (fun e w' (h : _ ∧ _) => ⟨h.1, h.2.below⟩)
theorem cells4 {w : World} {g t : Nat} {v0 v1 v2 v3 : Value} (h : w.heap[g]? = some (.cells #[v0, v1, v2, v3] t (0, 0))) : w.cell? ⟨g, 0, none⟩ = some v0 ∧ w.cell? ⟨g, 1, none⟩ = some v1 ∧ w.cell? ⟨g, 2, none⟩ = some v2 ∧ w.cell? ⟨g, 3, none⟩ = some v3 :=
  ⟨(blk_cell h 0).trans rfl, (blk_cell h 1).trans rfl, (blk_cell h 2).trans rfl, (blk_cell h 3).trans rfl⟩
theorem cell_keep {W w' : World} (hb : Below W.heap.size W w') {p : Addr} {v : Value} (h : W.cell? p = some v) : w'.cell? p = some v := (hb.cell (World.block_lt_of_cell? W _ h)).trans h
theorem cells4A {w : World} {g t : Nat} {v0 v1 v2 v3 : Value} (h : w.heap[g]? = some (.cells #[v0, v1, v2, v3] t (0, 0))) : (∀ O : Obj, (w.alloc O).cell? ⟨g, 0, none⟩ = some v0) ∧ (∀ O : Obj, (w.alloc O).cell? ⟨g, 1, none⟩ = some v1) ∧ (∀ O : Obj, (w.alloc O).cell? ⟨g, 2, none⟩ = some v2) ∧ ∀ O : Obj, (w.alloc O).cell? ⟨g, 3, none⟩ = some v3 := by
  obtain ⟨h0, h1, h2, h3⟩ := cells4 h
  exact ⟨fun O => cell_keep (below_alloc (Below.refl _ _) O) h0, fun O => cell_keep (below_alloc (Below.refl _ _) O) h1, fun O => cell_keep (below_alloc (Below.refl _ _) O) h2, fun O => cell_keep (below_alloc (Below.refl _ _) O) h3⟩
def cantonlaw14_MountsMove.f (l0 : List S27) (a1 : ByteArray) (l2 : List Int) : Option Bool :=
  if (∀ x ∈ l2, 0 ≤ x ∧ x ≤ 255) ∧ (∀ y ∈ l0, y.f0.size ≤ 140737488351232) ∧ l0.length ≤ 3518437208783 then some true else none

set_option maxHeartbeats 8000000 in
set_option maxRecDepth 100000 in
theorem move_loop (A : Option Addr) (c : Nat) (l : List S) (p : ByteArray) (A2 : Option Addr) (c2 : Nat) (ways : List Int) (w : World) (hr : Kd.C k27 w A l.length l) (hc : l.length ≤ c) (hr2 : Kd.C (Kd.int .u8) w A2 ways.length ways) (hc2 : ways.length ≤ c2)
    (hb : ∀ x ∈ ways, 0 ≤ x ∧ x ≤ 255) (hs : ∀ y ∈ l, y.f0.size ≤ 140737488351232) (hl : l.length ≤ 3518437208783) (hgr : cantonlaw14_great.f (l.length + 1) l = some false) (hl3 : l.length < 3000) (hps : p.size ≤ 1000) (hw50 : ways.length ≤ 50) :
    Calls Try.prog 4 #[.slice A l.length c, .string p, .slice A2 ways.length c2] w fun e w' => e = .returned (.bool true) ∧ Below w.heap.size w w' := by
  obtain ⟨n, hn⟩ : ∃ n, ways.length = n := ⟨_, rfl⟩
  have HN := Lib.hid hn
  have HR := Lib.hid hr
  have HC := Lib.hid hc
  have HR2 := Lib.hid hr2
  have HBD := Lib.hid hb
  have HGR := Lib.hid (fun (W : World) (hW : Below w.heap.size w W) => cantonlaw14_great.calls (l.length + 1) A c l false W (Kd.C_below hr hW) hc hgr)
  have HHD := Lib.hid (fun (W : World) => cantonlaw14_head.calls 50 true W cantonlaw14_head.at50)
  have HL3 := Lib.hid hl3
  rw [hn] at hc2 hw50 ⊢
  clear hr hc hr2 hb hs hgr hn hl3
  go_enter Try.func4, Try.ntmps4
  go_wp2_with fail
  refine (HHD.out _).mono ?_
  rintro e w1 ⟨rfl, hb1⟩
  have HB1 := Lib.hid hb1
  clear hb1
  go_wp2_with fail
  refine (HGR.out _ HB1.out).mono ?_
  rintro e w2 ⟨rfl, hb2⟩
  have HB2 := Lib.hid (below_step HB1.out hb2)
  clear hb2 HB1
  go_wp2_with fail
  go_loopg [0, 8, 9] n (fun gg s0 s8 s9 wr => ∃ (i : Nat) (A' : Option Addr) (c' : Nat) (l' : List S) (last : Int), i ≤ n ∧ n - i ≤ gg ∧ s0 = .slice A' l'.length c' ∧ s8 = .int .i64 last ∧ s9 = .int .i64 i ∧
    Hid (l'.length ≤ c') ∧ Hid (Kd.C k27 wr A' l'.length l') ∧ Hid (InvM l' p last) ∧ Hid (Below w.heap.size w wr) ∧ Hid (l'.length < 3000))
  case atStart => exact ⟨0, A, c, l, -1, Nat.zero_le _, by omega, rfl, rfl, rfl, HC.out, Kd.C_below HR.out HB2.out, .inl rfl, HB2.out, HL3.out⟩
  case round =>
    obtain ⟨i, A', c', l', last, hi, hg, rfl, rfl, rfl, hC', hR', hI, hB, hL⟩ := hrel
    by_cases hlt : i < n
    · have hltz : (i : Int) < (n : Int) := by omega
      obtain ⟨ad, cc, ea, _, hK, hcc⟩ := Kd.C_get HR2.out (0 : Int) (i : Int) (by omega) (by have := HN.out; omega)
      obtain ⟨v, hv⟩ : ∃ v, ways.getD (i : Int).toNat 0 = v := ⟨_, rfl⟩
      rw [hv] at hK
      obtain rfl := (show cc = [.int .u8 v] from hK)
      have hvb := HBD.out v (by
        have hj : i < ways.length := by have := HN.out; omega
        rw [← hv, Int.toNat_natCast, List.getD_eq_getElem?_getD, List.getElem?_eq_getElem hj]
        exact List.getElem_mem hj)
      have hcell : w.cell? (ad.add i) = some (.int .u8 v) := by
        have h := hcc 0 _ rfl
        rwa [show ((i : Int).toNat * (Kd.int .u8).sz + 0) = i by show (i : Int).toNat * 1 + 0 = i; omega] at h
      clear hcc hK hv
      replace hcell := (hB.out.cell (World.block_lt_of_cell? w _ hcell)).trans hcell
      have hv0 : 0 ≤ v := hvb.1
      have hv1 : v ≤ 255 := hvb.2
      clear hvb
      cases ea
      have hd0 : 0 ≤ v % 4 := by omega
      have hd4 : v % 4 < 4 := by omega
      obtain ⟨d, hd⟩ : ∃ d, v % 4 = d := ⟨_, rfl⟩
      have HD := Lib.hid hd
      rw [hd] at hd0 hd4
      clear hd
      obtain ⟨a, x0, x1, x2, x3, e, hbg, hbR⟩ := begin_is l' (by have := hL.out; omega) p d
      have HBG := Lib.hid (fun (W : World) (hW : Kd.C k27 W A' l'.length l') => begin_C A' c' l' p d a x0 x1 x2 x3 e hbg hC'.out W hW)
      have HBR := Lib.hid hbR
      clear hbg hbR
      go_wp2_with fail
      rw [HD.out]
      refine (HBG.out _ hR'.out).mono ?_
      rintro e1 w3 ⟨A3, c3, rfl, hc3, hr3, hb3⟩
      by_cases he : e = 0
      · subst he
        obtain ⟨g1, cc, d1, g, h, j, Y⟩ := round_yes HBR.out hI.out
        obtain ⟨_, h0, h3, _⟩ := begin_vals HBR.out
        have h0' : p = x0 := h0.symm
        have h3' : d = x3 := h3.symm
        subst h0'
        subst h3'
        clear h0 h3
        have hx20 : 0 ≤ x2 := Y.num.1
        have hx21 : x2 ≤ 281474976710656 := Y.num.2
        have hne : (x1 == d) = false := beq_eq_false_iff_ne.2 Y.grp
        have hw1 : wrap64 (x2 + 1) = x2 + 1 := w64 (by omega) (by omega)
        have HG2 := Lib.hid (fun (W : World) (hW : Kd.C k27 W A3 a.length a) => begin_C A3 c3 a p d a p x1 x2 d 0 Y.again hc3.out W hW)
        have HF1 := Lib.hid (fun (W : World) (hW : Kd.C k27 W A3 a.length a) => flip_C A3 c3 a p (x2 + 1) d g1 g (by rw [← hw1]; exact Y.flip1) hc3.out W hW)
        have HF2 := Lib.hid (fun (W : World) (hW : Kd.C k27 W A3 a.length a) => flip_C A3 c3 a p x2 d cc h Y.flip2 hc3.out W hW)
        have HAL := Lib.hid Y.lens.1
        have HY := Lib.hid Y
        clear hw1 Y
        go_wp2_with fail
        refine (HG2.out _ (Kd.C_below hr3.out (below_alloc (Below.refl _ _) _))).mono ?_
        rintro e2 w4 ⟨A4, c4, rfl, hc4, hr4, hb4⟩
        have HK4 := Lib.hid (show w4.heap[w3.heap.size]? = some (.cells #[.string p, .int .i64 x1, .int .i64 x2, .int .i64 d] 27 (0, 0)) from (hb4.out.block _ (by simp)).trans (heap_alloc_new w3 _))
        have HB4 := Lib.hid (below_step (below_alloc (below_step hB.out hb3.out) _) hb4.out)
        have HR4 := Lib.hid (Kd.C_below (Kd.C_below hr3.out (below_alloc (Below.refl _ _) _)) hb4.out)
        obtain ⟨q0, q1, q2, q3⟩ := cells4A HK4.out
        go_wp2_with fail
        refine (same_C A3 A4 c3 c4 a (by have := HAL.out; omega) hc3.out hc4.out _ (Kd.C_below HR4.out (below_alloc (Below.refl _ _) _)) (Kd.C_below hr4.out (below_alloc (Below.refl _ _) _))).mono ?_
        rintro e3 w5 ⟨rfl, hb5⟩
        have HK5 := Lib.hid (show w5.heap[w3.heap.size]? = some (.cells #[.string p, .int .i64 x1, .int .i64 x2, .int .i64 d] 27 (0, 0)) from blk_below (blk_alloc HK4.out _) hb5)
        have HB5 := Lib.hid (below_step (below_alloc HB4.out _) hb5)
        have HR5 := Lib.hid (Kd.C_below (Kd.C_below HR4.out (below_alloc (Below.refl _ _) _)) hb5)
        clear q0 q1 q2 q3 hb5
        obtain ⟨q0, q1, q2, q3⟩ := cells4 HK5.out
        go_wp2_with fail
        refine (HF1.out _ HR5.out).mono ?_
        rintro e4 w6 ⟨A6, c6, rfl, hc6, hr6, hb6⟩
        have HK6 := Lib.hid (show w6.heap[w3.heap.size]? = some (.cells #[.string p, .int .i64 x1, .int .i64 x2, .int .i64 d] 27 (0, 0)) from blk_below HK5.out hb6.out)
        have HB6 := Lib.hid (below_step HB5.out hb6.out)
        have HR6 := Lib.hid (Kd.C_below HR5.out hb6.out)
        clear q0 q1 q2 q3 hb6 hc6 hr6
        obtain ⟨q0, q1, q2, q3⟩ := cells4 HK6.out
        go_wp2_with fail
        refine (HF2.out _ HR6.out).mono ?_
        rintro e5 w7 ⟨A7, c7, rfl, hc7, hr7, hb7⟩
        have HK7 := Lib.hid (show w7.heap[w3.heap.size]? = some (.cells #[.string p, .int .i64 x1, .int .i64 x2, .int .i64 d] 27 (0, 0)) from blk_below HK6.out hb7.out)
        have HB7 := Lib.hid (below_step HB6.out hb7.out)
        have HF3 := Lib.hid (fun (W : World) (hW : Kd.C k27 W A7 cc.length cc) => flip_C A7 c7 cc p x2 d d1 j HY.out.flip3 hc7.out W hW)
        clear q0 q1 q2 q3 hb7
        obtain ⟨q0, q1, q2, q3⟩ := cells4 HK7.out
        go_wp2_with fail
        refine (HF3.out _ hr7.out).mono ?_
        rintro e6 w8 ⟨A8, c8, rfl, hc8, hr8, hb8⟩
        have HK8 := Lib.hid (show w8.heap[w3.heap.size]? = some (.cells #[.string p, .int .i64 x1, .int .i64 x2, .int .i64 d] 27 (0, 0)) from blk_below HK7.out hb8.out)
        have HB8 := Lib.hid (below_step HB7.out hb8.out)
        have HR8 := Lib.hid (Kd.C_below hr7.out hb8.out)
        clear q0 q1 q2 q3 hb8
        obtain ⟨q0, q1, q2, q3⟩ := cells4 HK8.out
        by_cases hmx : x2 = 281474976710656
        · obtain ⟨z, hz⟩ := find_any cc p (by have := HY.out.lens.2.2.1; omega) cc.length 0 (cc.length + 1) (by omega) (by omega)
          have HFI := Lib.hid (fun (W : World) (hW : Kd.C k27 W A7 cc.length cc) => cantonref14_Find.calls (cc.length + 1) A7 c7 cc p z W hW hc7.out hz)
          clear hz
          have hge : 281474976710656 ≤ x2 := by omega
          clear hmx
          go_wp2_with fail
          refine (HFI.out _ HR8.out).mono ?_
          rintro e7 w9 ⟨rfl, hd9⟩
          have HK9 := Lib.hid (show w9.heap[w3.heap.size]? = some (.cells #[.string p, .int .i64 x1, .int .i64 x2, .int .i64 d] 27 (0, 0)) from blk_below HK8.out hd9.below)
          have HB9 := Lib.hid (below_step HB8.out hd9.below)
          clear q0 q1 q2 q3 hd9
          obtain ⟨q0, q1, q2, q3⟩ := cells4 HK9.out
          go_wp2_with fail
          go_ret
          exact ⟨rfl, HB9.out⟩
        · obtain ⟨rfl, rfl, rfl, rfl, hlast, hcR, hcm⟩ := HY.out.fine (by omega)
          obtain ⟨z, hz, hzl, hze⟩ := find_is hcR hcm 200 (by omega)
          have HFI := Lib.hid (fun (W : World) (hW : Kd.C k27 W A7 d1.length d1) => cantonref14_Find.calls 200 A7 c7 d1 p (z : Int) W hW hc7.out hz)
          have HZE := Lib.hid hze
          have HCM := Lib.hid hcm
          have HCR := Lib.hid hcR
          clear hz hze hcm hcR
          have hlt2 : x2 < 281474976710656 := by omega
          clear hmx
          go_wp2_with fail
          refine (HFI.out _ HR8.out).mono ?_
          rintro e7 w9 ⟨rfl, hd9⟩
          have HK9 := Lib.hid (show w9.heap[w3.heap.size]? = some (.cells #[.string p, .int .i64 x1, .int .i64 x2, .int .i64 d] 27 (0, 0)) from blk_below HK8.out hd9.below)
          have HB9 := Lib.hid (below_step HB8.out hd9.below)
          have HR9 := Lib.hid (Kd.C_below HR8.out hd9.below)
          have hd9b := Lib.hid hd9.below
          clear q0 q1 q2 q3 hd9
          obtain ⟨q0, q1, q2, q3⟩ := cells4 HK9.out
          obtain ⟨ad7, ea7, y0, y1, y2, y3⟩ := at_T27 HR9.out (z : Int) (by omega) (by omega)
          rw [show rd_T27 d1 (z : Int) = ⟨p, d, x2 + 1, d⟩ from HZE.out] at y0 y1 y2 y3
          simp only [Int.toNat_natCast] at y0 y1 y2 y3
          cases ea7
          have HR9' := Lib.hid (Kd.C_below (Kd.C_below hr8.out (Below.refl _ _)) (hd9b.out))
          have hzl' : (z : Int) < (d1.length : Int) := by omega
          have hz0 : 0 ≤ (z : Int) := by omega
          have hwr : IntKind.i64.wrap (x2 + 1) = x2 + 1 := IntWalk.i64_in _ (by omega)
          have hlb : decide (x2 < last) = false := decide_eq_false (by omega)
          have hDL := Lib.hid (show d1.length ≤ 100000 by have := HY.out.lens.2.2.1; omega)
          go_wp2_with fail
          go_region_held3 (fun w' => w'.cell? ⟨w3.heap.size, 2, none⟩ = some (.int .i64 x2) ∧ w'.cell? ⟨(ad7.add (z * 4)).block, (ad7.add (z * 4)).off + 1, none⟩ = some (.int .i64 d) ∧ w'.cell? ⟨(ad7.add (z * 4)).block, (ad7.add (z * 4)).off + 2, none⟩ = some (.int .i64 (x2 + 1)) ∧ w'.cell? ⟨(ad7.add (z * 4)).block, (ad7.add (z * 4)).off + 3, none⟩ = some (.int .i64 d) ∧
              Hid (Kd.C k27 w' (some ad7) d1.length d1) ∧ Hid (Kd.C k27 w' A8 d1.length d1) ∧ Hid (Below w.heap.size w w'))
            (first | exact ⟨by go_keep, by go_keep, by go_keep, by go_keep, Lib.hid (Kd.C_drew HR9.out), Lib.hid (Kd.C_drew HR9'.out), Lib.hid (below_drew1 HB9.out)⟩ | (go_split_ands; exact ⟨cell_keep hb (by assumption), cell_keep hb (by assumption), cell_keep hb (by assumption), cell_keep hb (by assumption), Lib.hid (Kd.C_below (Hid.out (by assumption)) hb), Lib.hid (Kd.C_below (Hid.out (by assumption)) hb), Lib.hid (below_step (Hid.out (by assumption)) hb)⟩))
            (first | (go_at_call 16; refine (same_C (some ad7) A8 c7 c8 d1 hDL.out hc7.out hc8.out _ (Hid.out (by assumption)) (Hid.out (by assumption))).mono ?_; rintro e w' ⟨rfl, hb⟩))
          go_split_ands
          have hlen : d1.length < 3000 := by have := HY.out.lens.2.2.1; omega
          go_wp2_with fail
          go_roundg (n - (i + 1))
          case measure => omega
          case rel => exact ⟨i + 1, some ad7, c7, d1, x2 + 1, by omega, by omega, rfl, rfl, by go_num, hc7, by assumption, Lib.hid (.inr ⟨_, HCM.out, rfl, rfl⟩), by assumption, Lib.hid hlen⟩
      · rcases round_no HBR.out he with rfl | ⟨h1, hal⟩
        · clear he
          go_wp2_with fail
          go_roundg (n - (i + 1))
          case measure => omega
          case rel => exact ⟨i + 1, A', c', l', last, by omega, by omega, rfl, rfl, by go_num, hC', Kd.C_below (Kd.C_below hR'.out hb3.out) (below_alloc (Below.refl _ _) _), hI, below_alloc (below_step hB.out hb3.out) _, hL⟩
        · have h2 : (e != 0) = true := bne_iff_ne.2 he
          have h3 : (e != 1) = true := bne_iff_ne.2 h1
          clear he h1
          subst hal
          go_wp2_with fail
          refine (same_C A3 A' c3 c' a (by have := hL.out; omega) hc3.out hC'.out _ (Kd.C_below hr3.out (below_alloc (Below.refl _ _) _)) (Kd.C_below (Kd.C_below hR'.out hb3.out) (below_alloc (Below.refl _ _) _))).mono ?_
          rintro e2 w4 ⟨rfl, hb4⟩
          have HB4 := Lib.hid (below_step (below_alloc (below_step hB.out hb3.out) _) hb4)
          have HR4 := Lib.hid (Kd.C_below (Kd.C_below (Kd.C_below hR'.out hb3.out) (below_alloc (Below.refl _ _) _)) hb4)
          clear hb4
          go_wp2_with fail
          go_roundg (n - (i + 1))
          case measure => omega
          case rel => exact ⟨i + 1, A', c', a, last, by omega, by omega, rfl, rfl, by go_num, hC', HR4, hI, HB4, hL⟩
    · have hltz : ¬ (i : Int) < (n : Int) := by omega
      go_wp2_with fail
      go_ret
      exact ⟨rfl, hB.out⟩
set_option maxHeartbeats 4000000 in
set_option maxRecDepth 100000 in
theorem move_out (A : Option Addr) (c : Nat) (l : List S) (p : ByteArray) (A2 : Option Addr) (c2 n : Nat) (b : Bool) (w : World) (hr : Kd.C k27 w A l.length l) (hc : l.length ≤ c)
    (hgr : cantonlaw14_great.f (l.length + 1) l = some b) (hout : b = true ∨ (b = false ∧ 1000 < p.size) ∨ (b = false ∧ p.size ≤ 1000 ∧ 50 < n)) :
    Calls Try.prog 4 #[.slice A l.length c, .string p, .slice A2 n c2] w fun e w' => e = .returned (.bool true) ∧ Below w.heap.size w w' := by
  have HGR := Lib.hid (fun (W : World) (hW : Below w.heap.size w W) => cantonlaw14_great.calls (l.length + 1) A c l b W (Kd.C_below hr hW) hc hgr)
  have HHD := Lib.hid (fun (W : World) => cantonlaw14_head.calls 50 true W cantonlaw14_head.at50)
  clear hr hc hgr
  rcases hout with rfl | ⟨rfl, h1⟩ | ⟨rfl, h1, h2⟩
  all_goals
    go_enter Try.func4, Try.ntmps4
    go_wp2_with fail
    refine (HHD.out _).mono ?_
    rintro e w1 ⟨rfl, hb1⟩
    have HB1 := Lib.hid hb1
    clear hb1
    go_wp2_with fail
    refine (HGR.out _ HB1.out).mono ?_
    rintro e w2 ⟨rfl, hb2⟩
    have HB2 := Lib.hid (below_step HB1.out hb2)
    clear hb2 HB1
    go_wp2_with fail
    go_ret
    exact ⟨rfl, HB2.out⟩
theorem cantonlaw14_MountsMove.calls (A0 : Option Addr) (c0 : Nat) (l0 : List S27) (a1 : ByteArray) (A2 : Option Addr) (c2 : Nat) (l2 : List Int) (r : Bool) (w : World) (hr0 : Kd.C k27 w A0 l0.length l0) (hc0 : l0.length ≤ c0) (hr2 : Kd.C (Kd.int .u8) w A2 l2.length l2) (hc2 : l2.length ≤ c2) (h : cantonlaw14_MountsMove.f l0 a1 l2 = some r) :
    Calls Try.prog 4 #[.slice A0 l0.length c0, .string a1, .slice A2 l2.length c2] w fun e w' => e = .returned (.bool r) ∧ Below w.heap.size w w' := by
  unfold cantonlaw14_MountsMove.f at h
  split at h
  · next hx =>
    obtain rfl := Option.some.inj h
    obtain ⟨h1, h2, h3⟩ := hx
    obtain ⟨b, hb, hsz⟩ := great_is l0 (by omega) (fun x hx => by have := h2 x hx; omega) (l0.length + 1) (by omega)
    cases b with
    | true => exact move_out A0 c0 l0 a1 A2 c2 l2.length true w hr0 hc0 hb (.inl rfl)
    | false =>
      by_cases c1 : 1000 < a1.size
      · exact move_out A0 c0 l0 a1 A2 c2 l2.length false w hr0 hc0 hb (.inr (.inl ⟨rfl, c1⟩))
      · by_cases c3 : 50 < l2.length
        · exact move_out A0 c0 l0 a1 A2 c2 l2.length false w hr0 hc0 hb (.inr (.inr ⟨rfl, by omega, c3⟩))
        · exact move_loop A0 c0 l0 a1 A2 c2 l2 w hr0 hc0 hr2 hc2 h1 h2 h3 hb (hsz rfl).1 (by omega) (by omega)
  · cases h
end Go.Proofs.Ytpkaedpgpncgpaa.MMove
