/- The walk of SectorPlays. -/
import Derived.Test.YtpchobikpamfcaaSk25
import Derived.Deep.CutBlock
import Derived.Deep.RegionHeld
namespace Go.Proofs.Ytpchobikpamfcaa.Sk
open Go Go.RowKit Go.Maps Go.Proofs Go.Proofs.Ytpchobikpamfcaa.Q Go.Proofs.YtpchobikpamfcaaW.PrintWords Go.Proofs.YtpchobikpamfcaaW.PrintLast Go.Proofs.YtpchobikpamfcaaW.PrintMore
set_option linter.unusedVariables false
set_option linter.unusedSimpArgs false

theorem infoOp : (Try.prog.info? 30).map (·.size) = some 5 := by kernel_rfl
/-- a call is laid into a block of its own, and known there -/
theorem store_op {ops : Array Oper} {rest : List Oper} {o : Oper} {a : Act} {w : World} {Q : Exit → Act → World → Prop} (hgd : o.guard = none) (x y : Operand) (ho : o.op = .store 30 x y)
    {old cells : Array Value} (hx : a.eval x = .pointer (some ⟨w.heap.size, 0, none⟩)) (hy : a.eval y = .agg cells) (hs : cells.size = 5) (hold : old.size = 5) (h1 : cells.all (·.oneCell') = true)
    (h : ∀ w2, Below w.heap.size w w2 → w2.heap[w.heap.size]? = some (.cells cells 30 (0, 0)) → wpList Try.prog ops Q rest (a.put o.dst undef) w2) : wpList Try.prog ops Q (o :: rest) a (w.alloc (.cells old 30)) := by
  refine wpList_store_row hgd 30 x y ho w.heap.size cells hx hy 30 old (blk_new w _) (by rw [hs]; exact infoOp) (by rw [hold, hs]) h1 (h _ ?_ ?_)
  · have hb := below_alloc (Below.refl w.heap.size w) (.cells old 30)
    exact ⟨hb.os, hb.tape, hb.output, by simp [World.setRow], fun k hk => (setRow_other _ _ k _ (by omega)).trans (hb.block k hk)⟩
  · exact setRow_heap _ _ _ _ _ _ (blk_new w _)
/-- what a call makes, and what it answers -/
def opD (s : D) (o : Op) : D × Int :=
  if o.f0 = 0 ∨ o.f0 = 1 ∨ o.f0 = 2 then s.write o.f1 o.f2 else if o.f0 = 3 then s.sync else if o.f0 = 4 then (s, (s.read o.f1 o.f3).2) else if o.f0 = 5 then (s.fused o.f3, 0) else if o.f0 = 6 then (s.crash o.f4, 0) else (s, 0)
theorem opD_w {s : D} {o : Op} (h : o.f0 = 0 ∨ o.f0 = 1 ∨ o.f0 = 2) : opD s o = s.write o.f1 o.f2 := if_pos h
theorem opD_3 {s : D} {o : Op} (h : o.f0 = 3) : opD s o = s.sync := by unfold opD; rw [if_neg (by omega), if_pos h]
theorem opD_4 {s : D} {o : Op} (h : o.f0 = 4) : opD s o = (s, (s.read o.f1 o.f3).2) := by unfold opD; rw [if_neg (by omega), if_neg (by omega), if_pos h]
theorem opD_5 {s : D} {o : Op} (h : o.f0 = 5) : opD s o = (s.fused o.f3, 0) := by unfold opD; rw [if_neg (by omega), if_neg (by omega), if_neg (by omega), if_pos h]
theorem opD_6 {s : D} {o : Op} (h : o.f0 = 6) : opD s o = (s.crash o.f4, 0) := by unfold opD; rw [if_neg (by omega), if_neg (by omega), if_neg (by omega), if_neg (by omega), if_pos h]
theorem opD_n {s : D} {o : Op} (h : o.f0 ≠ 0 ∧ o.f0 ≠ 1 ∧ o.f0 ≠ 2 ∧ o.f0 ≠ 3 ∧ o.f0 ≠ 4 ∧ o.f0 ≠ 5 ∧ o.f0 ≠ 6) : opD s o = (s, 0) := by unfold opD; rw [if_neg (by omega), if_neg (by omega), if_neg (by omega), if_neg (by omega), if_neg (by omega)]
theorem acts_write {s : D} (a : Int) (x : By) : (s.write a x).1.acts ≤ s.acts + 1 := by
  unfold D.write
  split
  · show s.acts ≤ _; omega
  · split
    · exact Nat.le_refl _
    · show s.acts ≤ _; omega
theorem acts_sync (s : D) : s.sync.1.acts ≤ s.acts + 1 := by
  unfold D.sync
  split
  · show s.acts ≤ _; omega
  · exact Nat.le_refl _
theorem opD_ok {s : D} (h : Ok s) (o : Op) (hx : ∀ y ∈ o.f2, 0 ≤ y ∧ y ≤ 255) (hn : o.f3 ≤ 9223372036854775807) : Ok (opD s o).1 ∧ (opD s o).1.acts ≤ s.acts + 1 := by
  unfold opD
  split
  · exact ⟨ok_write h _ _ hx, acts_write _ _⟩
  · split
    · exact ⟨ok_sync h, acts_sync _⟩
    · split
      · exact ⟨h, Nat.le_succ _⟩
      · split
        · exact ⟨ok_fused h _ hn, Nat.le_succ _⟩
        · split
          · exact ⟨ok_crash h _, Nat.le_succ _⟩
          · exact ⟨h, Nat.le_succ _⟩
theorem rsame_below {W : World} (A1 A2 : Option Addr) (c1 c2 : Nat) (l : List Int) (h1 : Kd.C (Kd.int .i64) W A1 l.length l) (h2 : Kd.C (Kd.int .i64) W A2 l.length l) : Calls Try.prog 28 #[.slice A1 l.length c1, .slice A2 l.length c2] W fun e w' => e = .returned (.bool true) ∧ Below W.heap.size W w' :=
  (rsame_calls A1 A2 c1 c2 l h1 h2).mono fun e w' ⟨h, m, hm⟩ => ⟨h, by rw [hm]; exact below_drewN (Below.refl _ _) m⟩
/-- both disks -/
structure Two (W w : World) (B p g cap m q : Nat) (s : D) : Prop where
  sr : SR w p g cap m s
  rr : RR w B q s
  lo : W.heap.size ≤ p ∧ W.heap.size ≤ g ∧ W.heap.size ≤ m
  hi : p < B ∧ g < B ∧ m < B
  below : Below W.heap.size W w
section
variable {W w w' : World} {B p g cap m q : Nat} {s t : D}
theorem Two.step (h : Two W w B p g cap m q s) (hb : Below w.heap.size w w') : Two W w' B p g cap m q s := ⟨h.sr.below hb, h.rr.below hb, h.lo, h.hi, h.below.trans (hb.mono h.below.size)⟩
/-- behind the one's call -/
theorem Two.one (h : Two W w B p g cap m q s) (h1 : SR w' p g cap m t) (h2 : Fr w w' p g m) : RR w' B q s ∧ Below W.heap.size W w' ∧ (∀ k, k < w.heap.size → B ≤ k → w'.heap[k]? = w.heap[k]?) := by
  have hi := h.hi
  exact ⟨h.rr.keep (fun k hk hl => h2.block k hl (by omega) (by omega) (by omega)), Fr.weaken h.below h2 h.lo.1 h.lo.2.1 h.lo.2.2 (Nat.le_refl _), fun k hl hk => h2.block k hl (by omega) (by omega) (by omega)⟩
/-- behind both calls -/
theorem two_mk {w2 : World} (h : Two W w B p g cap m q s) (h1 : SR w' p g cap m t) (h2 : Fr w w' p g m) (h3 : RR w2 B q t) (h4 : Below B w' w2) : Two W w2 B p g cap m q t := by
  have hi := h.hi
  obtain ⟨_, k2, _⟩ := h.one h1 h2
  have hB : W.heap.size ≤ B := by have := h.lo; omega
  exact ⟨h1.keep (h4.block _ hi.1) (h4.block _ hi.2.1) (h4.block _ hi.2.2), h3, h.lo, h.hi, k2.trans (h4.mono hB)⟩
theorem Two.off (h : Two W w B p g cap m q s) {A : Option Addr} {n : Nat} (hA : ∀ ad, A = some ad → 0 < n → ad.block < W.heap.size) : (∀ ad, A = some ad → 0 < n → ad.block ≠ p ∧ ad.block ≠ g ∧ ad.block ≠ m) ∧ (∀ ad, A = some ad → 0 < n → ad.block < B) := by
  have h1 := h.lo
  have h2 := h.hi
  exact ⟨fun ad e hn => by have := hA ad e hn; omega, fun ad e hn => by have := hA ad e hn; omega⟩
end
set_option maxHeartbeats 16000000 in
set_option maxRecDepth 100000 in
theorem plays_walk {W : World} (A0 : Option Addr) (c0 : Nat) (first : By) (hf : CB W A0 first.length first) (hc0 : first.length ≤ c0) (hfr : ∀ y ∈ first, 0 ≤ y ∧ y ≤ 255) (hfl : first.length ≤ 140737488355328) (A1 : Option Addr) (c1 : Nat) (l : List Op) (hl : Kd.C k30 W A1 l.length l) (ho : OkOps l) :
    Calls Try.prog 8 #[.slice A0 first.length c0, .slice A1 l.length c1] W fun e w' => e = .returned (.bool true) ∧ Below W.heap.size W w' := by
  have HH := Lib.hid (head_calls W)
  have HR := Lib.hid hl
  have HO := Lib.hid ho
  have HF := Lib.hid hf
  have hll := ho.1
  have hfl2 : (first.length : Int) ≤ 140737488355328 := by omega
  have HGR := Lib.hid (fun wq (hb : Below W.heap.size W wq) => great_calls A1 c1 l HR.out HO.out hb)
  clear hl ho hf
  cases hgr : greatB l with
  | true =>
    rw [hgr] at HGR
    go_enter Try.func8, Try.ntmps8
    go_wp2_with fail
    refine HH.out.mono ?_
    rintro e w0 ⟨rfl, hb0⟩
    have HB0 := Lib.hid hb0
    clear hb0
    go_wp2_with (go_at_call 11; refine (HGR.out _ HB0.out).mono ?_; rintro e w2 ⟨rfl, q, rfl⟩)
    go_ret
    exact ⟨rfl, below_drewN HB0.out q⟩
  | false =>
    rw [hgr] at HGR
    have HLL := Lib.hid (great_no hgr)
    by_cases h5 : first.length > 5000
    · have h5z : decide ((first.length : Int) > 5000) = true := decide_eq_true (by omega)
      go_enter Try.func8, Try.ntmps8
      go_wp2_with fail
      refine HH.out.mono ?_
      rintro e w0 ⟨rfl, hb0⟩
      have HB0 := Lib.hid hb0
      clear hb0
      go_wp2_with (go_at_call 11; refine (HGR.out _ HB0.out).mono ?_; rintro e w2 ⟨rfl, q, rfl⟩)
      go_ret
      exact ⟨rfl, below_drewN HB0.out q⟩
    · have h5z : decide ((first.length : Int) > 5000) = false := decide_eq_false (by omega)
      cases hok : okLen first.length with
      | false =>
        have HN := Lib.hid (fun W' => of_nil (W := W') A0 c0 first hfl hok)
        have HM := Lib.hid (fun W' => rof_nil (W := W') A0 c0 first hfl hok)
        go_enter Try.func8, Try.ntmps8
        go_wp2_with fail
        refine HH.out.mono ?_
        rintro e w0 ⟨rfl, hb0⟩
        have HB0 := Lib.hid hb0
        clear hb0
        go_wp2_with (first | (go_at_call 11; refine (HGR.out _ HB0.out).mono ?_; rintro e w2 ⟨rfl, q, rfl⟩) | (go_at_call 10; refine (HN.out _).mono ?_; rintro e w3 ⟨rfl, rfl⟩) | (go_at_call 22; refine (HM.out _).mono ?_; rintro e w3 ⟨rfl, rfl⟩))
        go_ret
        exact ⟨rfl, below_drewN HB0.out q⟩
      | true =>
        have HN := Lib.hid (fun W' (hb : CB W' A0 first.length first) => of_calls (W := W') A0 c0 first hb hok)
        have HM := Lib.hid (fun W' (hb : CB W' A0 first.length first) => rof_calls (W := W') A0 c0 first hb hok)
        have HOK0 := Lib.hid (ok_made hok hfr)
        clear hok hfr
        go_enter Try.func8, Try.ntmps8
        go_wp2_with fail
        refine HH.out.mono ?_
        rintro e w0 ⟨rfl, hb0⟩
        have HB0 := Lib.hid hb0
        clear hb0
        go_wp2_with (go_at_call 11; refine (HGR.out _ HB0.out).mono ?_; rintro e w2 ⟨rfl, hq⟩; have HQ := Lib.hid hq; clear hq)
        have HB1 := Lib.hid (show Below W.heap.size W w2 by obtain ⟨q, rfl⟩ := HQ.out; exact below_drewN HB0.out q)
        refine (HN.out _ (C_arg HF.out HB1.out)).mono ?_
        rintro e w3 ⟨p, g, cap, m, rfl, hs, hp, hg, hm, hb⟩
        have HS3 := Lib.hid hs
        have HB3 := Lib.hid (HB1.out.trans (hb.mono HB1.out.size))
        have HLO := Lib.hid (show W.heap.size ≤ p ∧ W.heap.size ≤ g ∧ W.heap.size ≤ m from ⟨Nat.le_trans HB1.out.size hp, Nat.le_trans HB1.out.size hg, Nat.le_trans HB1.out.size hm⟩)
        clear hs hp hg hm hb
        go_wp2_with fail
        refine (HM.out _ (C_arg HF.out HB3.out)).mono ?_
        rintro e w4 ⟨q, rfl, hr, hb⟩
        have HT4 := Lib.hid (show Two W w4 w3.heap.size p g cap m q (made first) from ⟨HS3.out.below hb, hr, HLO.out, HS3.out.lt, HB3.out.trans (hb.mono HB3.out.size)⟩)
        obtain ⟨B, hB⟩ : ∃ B, w3.heap.size = B := ⟨_, rfl⟩
        rw [hB] at HT4
        clear hr hb hB HS3 HB3 HLO
        go_wp2_with fail
        go_loopg [8] l.length (fun gg s8 wr => ∃ (i : Nat) (s : D), i ≤ l.length ∧ l.length - i ≤ gg ∧ s8 = .int .i64 i ∧ Hid (Two W wr B p g cap m q s) ∧ Hid (Ok s ∧ s.acts ≤ i))
        case atStart => exact ⟨0, made first, Nat.zero_le _, by omega, rfl, HT4.out, HOK0.out, Nat.le_refl _⟩
        case round =>
          obtain ⟨i, s, hi, hgg, rfl, HT, HI⟩ := hrel
          by_cases hlt : i < l.length
          · have hltz : decide ((i : Int) < (l.length : Int)) = true := decide_eq_true (by omega)
            have HLT := Lib.hid hlt
            obtain ⟨o, hoi⟩ : ∃ o, l[i]? = some o := ⟨_, List.getElem?_eq_getElem hlt⟩
            obtain ⟨ad, X2, c2, X4, c4, ea, x0, x1, x2, x3, x4, hB2, hB4⟩ := op_at2 HR.out HT.out.below hoi
            obtain ⟨_, _, hby, hn3⟩ := HO.out.2 _ (List.mem_of_getElem? hoi)
            have HNX := Lib.hid (opD_ok HI.out.1 o hby hn3)
            have HX2 := Lib.hid hB2
            have HX4 := Lib.hid hB4
            cases ea
            clear hoi hby hn3 hB2 hB4
            obtain ⟨n2, hn2⟩ : ∃ n, o.f2.length = n := ⟨_, rfl⟩
            obtain ⟨n4, hn4⟩ : ∃ n, o.f4.length = n := ⟨_, rfl⟩
            have HN2 := Lib.hid hn2
            have HN4 := Lib.hid hn4
            rw [hn2] at x2
            rw [hn4] at x4
            clear hn2 hn4
            go_upto_block 2 with (fail)
            have hg2 := blk_new wr (Obj.cells #[Value.int .i64 o.f0, .int .i64 o.f1, .slice X2 n2 c2, .int .i64 o.f3, .slice X4 n4 c4] 30)
            have hb2 := below_alloc (Below.refl wr.heap.size wr) (Obj.cells #[Value.int .i64 o.f0, .int .i64 o.f1, .slice X2 n2 c2, .int .i64 o.f3, .slice X4 n4 c4] 30)
            generalize wr.alloc (Obj.cells #[Value.int .i64 o.f0, .int .i64 o.f1, .slice X2 n2 c2, .int .i64 o.f3, .slice X4 n4 c4] 30) = w2 at hg2 hb2 ⊢
            have HT2 := Lib.hid (HT.out.step hb2)
            have HG2 := Lib.hid hg2
            obtain ⟨y0, y1, y2, y3, y4⟩ := cells5 hg2
            clear hb2 hg2
            clear x0 x1 x2 x3 x4
            (try simp only [Act.put, List.setIfInBounds_toArray, List.set_cons_zero, List.set_cons_succ])
            have HGB := Lib.hid (show B ≤ wr.heap.size from HT.out.rr.size)
            go_cut [10, 11] from 53 to 152 (fun v10 v11 wc => ∃ x : Int, v10 = .int .i64 x ∧ v11 = .int .i64 x ∧ Hid (Two W wc B p g cap m q (opD s o).1))
            case first =>
              obtain ⟨o0, o1, o2, o3, o4⟩ := o
              dsimp only at HX2 HX4 HN2 HN4 HG2 HT2 HNX y0 y1 y2 y3 y4
              rcases (show o0 = 0 ∨ o0 = 1 ∨ o0 = 2 ∨ o0 = 3 ∨ o0 = 4 ∨ o0 = 5 ∨ o0 = 6 ∨ (o0 ≠ 0 ∧ o0 ≠ 1 ∧ o0 ≠ 2 ∧ o0 ≠ 3 ∧ o0 ≠ 4 ∧ o0 ≠ 5 ∧ o0 ≠ 6) by omega) with rfl | rfl | rfl | rfl | rfl | rfl | rfl | ⟨k0, k1, k2, k3, k4, k5, k6⟩
              · have HOP := Lib.hid (opD_w (s := s) (o := ⟨0, o1, o2, o3, o4⟩) (.inl rfl))
                go_wp2_with fail
                refine (show Calls Try.prog 12 #[.pointer (some ⟨p, 0, none⟩), .int .i64 o1, .slice X2 n2 c2] w2 _ from by rw [← HN2.out]; exact write_calls HT2.out.sr HI.out.1 (by have := HI.out.2; have := HLL.out; have := HLT.out; omega) o1 o2 (C_arg HX2.out HT2.out.below) (HT2.out.off (arg_lt HX2.out)).1).mono ?_
                rintro e w5 ⟨rfl, hs, hf⟩
                obtain ⟨r1, r2, r3⟩ := HT2.out.one hs hf
                have HG5 := Lib.hid ((r3 _ (blk_lt HG2.out) HGB.out).trans HG2.out)
                have HS5 := Lib.hid hs
                have HF5 := Lib.hid hf
                have HR5 := Lib.hid r1
                have HB5 := Lib.hid r2
                obtain ⟨z0, z1, z2, z3, z4⟩ := cells5 HG5.out
                clear hs hf r1 r2 r3
                go_wp2_with fail
                refine (show Calls Try.prog 23 #[.pointer (some ⟨q, 0, none⟩), .int .i64 o1, .slice X2 n2 c2] w5 _ from by rw [← HN2.out]; exact rwrite_calls HR5.out HI.out.1 (by have := HI.out.2; have := HLL.out; have := HLT.out; omega) o1 o2 (C_arg HX2.out HB5.out) (HT2.out.off (arg_lt HX2.out)).2).mono ?_
                rintro e w6 ⟨rfl, hr, hb⟩
                have HT6 := Lib.hid (two_mk HT2.out HS5.out HF5.out hr hb)
                clear hr hb
                go_wp2_with fail
                go_meet
                case rel => exact ⟨_, rfl, rfl, by rw [HOP.out]; exact HT6⟩
              · have HOP := Lib.hid (opD_w (s := s) (o := ⟨1, o1, o2, o3, o4⟩) (.inr (.inl rfl)))
                go_wp2_with fail
                refine (show Calls Try.prog 12 #[.pointer (some ⟨p, 0, none⟩), .int .i64 o1, .slice X2 n2 c2] w2 _ from by rw [← HN2.out]; exact write_calls HT2.out.sr HI.out.1 (by have := HI.out.2; have := HLL.out; have := HLT.out; omega) o1 o2 (C_arg HX2.out HT2.out.below) (HT2.out.off (arg_lt HX2.out)).1).mono ?_
                rintro e w5 ⟨rfl, hs, hf⟩
                obtain ⟨r1, r2, r3⟩ := HT2.out.one hs hf
                have HG5 := Lib.hid ((r3 _ (blk_lt HG2.out) HGB.out).trans HG2.out)
                have HS5 := Lib.hid hs
                have HF5 := Lib.hid hf
                have HR5 := Lib.hid r1
                have HB5 := Lib.hid r2
                obtain ⟨z0, z1, z2, z3, z4⟩ := cells5 HG5.out
                clear hs hf r1 r2 r3
                go_wp2_with fail
                refine (show Calls Try.prog 23 #[.pointer (some ⟨q, 0, none⟩), .int .i64 o1, .slice X2 n2 c2] w5 _ from by rw [← HN2.out]; exact rwrite_calls HR5.out HI.out.1 (by have := HI.out.2; have := HLL.out; have := HLT.out; omega) o1 o2 (C_arg HX2.out HB5.out) (HT2.out.off (arg_lt HX2.out)).2).mono ?_
                rintro e w6 ⟨rfl, hr, hb⟩
                have HT6 := Lib.hid (two_mk HT2.out HS5.out HF5.out hr hb)
                clear hr hb
                go_wp2_with fail
                go_meet
                case rel => exact ⟨_, rfl, rfl, by rw [HOP.out]; exact HT6⟩
              · have HOP := Lib.hid (opD_w (s := s) (o := ⟨2, o1, o2, o3, o4⟩) (.inr (.inr rfl)))
                go_wp2_with fail
                refine (show Calls Try.prog 12 #[.pointer (some ⟨p, 0, none⟩), .int .i64 o1, .slice X2 n2 c2] w2 _ from by rw [← HN2.out]; exact write_calls HT2.out.sr HI.out.1 (by have := HI.out.2; have := HLL.out; have := HLT.out; omega) o1 o2 (C_arg HX2.out HT2.out.below) (HT2.out.off (arg_lt HX2.out)).1).mono ?_
                rintro e w5 ⟨rfl, hs, hf⟩
                obtain ⟨r1, r2, r3⟩ := HT2.out.one hs hf
                have HG5 := Lib.hid ((r3 _ (blk_lt HG2.out) HGB.out).trans HG2.out)
                have HS5 := Lib.hid hs
                have HF5 := Lib.hid hf
                have HR5 := Lib.hid r1
                have HB5 := Lib.hid r2
                obtain ⟨z0, z1, z2, z3, z4⟩ := cells5 HG5.out
                clear hs hf r1 r2 r3
                go_wp2_with fail
                refine (show Calls Try.prog 23 #[.pointer (some ⟨q, 0, none⟩), .int .i64 o1, .slice X2 n2 c2] w5 _ from by rw [← HN2.out]; exact rwrite_calls HR5.out HI.out.1 (by have := HI.out.2; have := HLL.out; have := HLT.out; omega) o1 o2 (C_arg HX2.out HB5.out) (HT2.out.off (arg_lt HX2.out)).2).mono ?_
                rintro e w6 ⟨rfl, hr, hb⟩
                have HT6 := Lib.hid (two_mk HT2.out HS5.out HF5.out hr hb)
                clear hr hb
                go_wp2_with fail
                go_meet
                case rel => exact ⟨_, rfl, rfl, by rw [HOP.out]; exact HT6⟩
              · have HOP := Lib.hid (opD_3 (s := s) (o := ⟨3, o1, o2, o3, o4⟩) rfl)
                go_wp2_with fail
                refine (sync_calls HT2.out.sr HI.out.1 (by have := HI.out.2; have := HLL.out; have := HLT.out; omega)).mono ?_
                rintro e w5 ⟨rfl, hs, hf⟩
                obtain ⟨r1, r2, r3⟩ := HT2.out.one hs hf
                have HG5 := Lib.hid ((r3 _ (blk_lt HG2.out) HGB.out).trans HG2.out)
                have HS5 := Lib.hid hs
                have HF5 := Lib.hid hf
                have HR5 := Lib.hid r1
                have HB5 := Lib.hid r2
                obtain ⟨z0, z1, z2, z3, z4⟩ := cells5 HG5.out
                clear hs hf r1 r2 r3
                go_wp2_with fail
                refine (rsync_calls HR5.out HI.out.1 (by have := HI.out.2; have := HLL.out; have := HLT.out; omega)).mono ?_
                rintro e w6 ⟨rfl, hr, hb⟩
                have HT6 := Lib.hid (two_mk HT2.out HS5.out HF5.out hr hb)
                clear hr hb
                go_wp2_with fail
                go_meet
                case rel => exact ⟨_, rfl, rfl, by rw [HOP.out]; exact HT6⟩
              · have HOP := Lib.hid (opD_4 (s := s) (o := ⟨4, o1, o2, o3, o4⟩) rfl)
                go_wp2_with fail
                refine (read_calls HT2.out.sr HI.out.1 o1 o3).mono ?_
                rintro e w5 ⟨A5, c5, rfl, hR, hb⟩
                have HT5 := Lib.hid (HT2.out.step hb)
                have HR5 := Lib.hid (rC hR)
                have HG5 := Lib.hid (blk_below HG2.out hb)
                obtain ⟨z0, z1, z2, z3, z4⟩ := cells5 HG5.out
                clear hR hb
                go_wp2_with fail
                refine (rread_calls HT5.out.rr HI.out.1 o1 o3).mono ?_
                rintro e w6 ⟨A6, c6, rfl, hR, hb⟩
                have HT6 := Lib.hid (HT5.out.step hb)
                have s1 := str_run (c := c5) (Kd.C_below HR5.out hb)
                have s2 := str_run (c := c6) hR
                obtain ⟨S, hS⟩ : ∃ S, strOfNums (s.read o1 o3).1 = S := ⟨_, rfl⟩
                rw [hS] at s1 s2
                clear hR hb hS
                go_wp2_with fail
                go_meet
                case rel => exact ⟨_, rfl, rfl, by rw [HOP.out]; exact HT6⟩
              · have HOP := Lib.hid (opD_5 (s := s) (o := ⟨5, o1, o2, o3, o4⟩) rfl)
                go_wp2_with fail
                refine (fuse_calls HT2.out.sr o3).mono ?_
                rintro e w5 ⟨rfl, hs, hf⟩
                obtain ⟨r1, r2, r3⟩ := HT2.out.one hs hf
                have HG5 := Lib.hid ((r3 _ (blk_lt HG2.out) HGB.out).trans HG2.out)
                have HS5 := Lib.hid hs
                have HF5 := Lib.hid hf
                have HR5 := Lib.hid r1
                have HB5 := Lib.hid r2
                obtain ⟨z0, z1, z2, z3, z4⟩ := cells5 HG5.out
                clear hs hf r1 r2 r3
                go_wp2_with fail
                refine (rfuse_calls HR5.out o3).mono ?_
                rintro e w6 ⟨rfl, hr, hb⟩
                have HT6 := Lib.hid (two_mk HT2.out HS5.out HF5.out hr hb)
                clear hr hb
                go_wp2_with fail
                go_meet
                case rel => exact ⟨_, rfl, rfl, by rw [HOP.out]; exact HT6⟩
              · have HOP := Lib.hid (opD_6 (s := s) (o := ⟨6, o1, o2, o3, o4⟩) rfl)
                go_wp2_with fail
                refine (show Calls Try.prog 15 #[.pointer (some ⟨p, 0, none⟩), .slice X4 n4 c4] w2 _ from by rw [← HN4.out]; exact crash_calls HT2.out.sr HI.out.1 o4 (C_arg HX4.out HT2.out.below) (HT2.out.off (cbool_lt HX4.out)).1).mono ?_
                rintro e w5 ⟨rfl, hs, hf⟩
                obtain ⟨r1, r2, r3⟩ := HT2.out.one hs hf
                have HG5 := Lib.hid ((r3 _ (blk_lt HG2.out) HGB.out).trans HG2.out)
                have HS5 := Lib.hid hs
                have HF5 := Lib.hid hf
                have HR5 := Lib.hid r1
                have HB5 := Lib.hid r2
                obtain ⟨z0, z1, z2, z3, z4⟩ := cells5 HG5.out
                clear hs hf r1 r2 r3
                go_wp2_with fail
                refine (show Calls Try.prog 27 #[.pointer (some ⟨q, 0, none⟩), .slice X4 n4 c4] w5 _ from by rw [← HN4.out]; exact rcrash_calls HR5.out HI.out.1 o4 (C_arg HX4.out HB5.out) (HT2.out.off (cbool_lt HX4.out)).2).mono ?_
                rintro e w6 ⟨rfl, hr, hb⟩
                have HT6 := Lib.hid (two_mk HT2.out HS5.out HF5.out hr hb)
                clear hr hb
                go_wp2_with fail
                go_meet
                case rel => exact ⟨_, rfl, rfl, by rw [HOP.out]; exact HT6⟩
              · have HOP := Lib.hid (opD_n (s := s) (o := ⟨o0, o1, o2, o3, o4⟩) ⟨k0, k1, k2, k3, k4, k5, k6⟩)
                have b0 : (o0 == 0) = false := beq_eq_false_iff_ne.2 k0
                have b1 : (o0 == 1) = false := beq_eq_false_iff_ne.2 k1
                have b2 : (o0 == 2) = false := beq_eq_false_iff_ne.2 k2
                have b3 : (o0 == 3) = false := beq_eq_false_iff_ne.2 k3
                have b4 : (o0 == 4) = false := beq_eq_false_iff_ne.2 k4
                have b5 : (o0 == 5) = false := beq_eq_false_iff_ne.2 k5
                have b6 : (o0 == 6) = false := beq_eq_false_iff_ne.2 k6
                clear k0 k1 k2 k3 k4 k5 k6
                go_wp2_with fail
                go_meet
                case rel => exact ⟨_, rfl, rfl, by rw [HOP.out]; exact HT2⟩
            case rest =>
              obtain ⟨x, rfl, rfl, HT3⟩ := hcut
              have HOK3 := Lib.hid (show Ok (opD s o).1 ∧ (opD s o).1.acts ≤ i + 1 from ⟨HNX.out.1, Nat.le_trans HNX.out.2 (Nat.succ_le_succ HI.out.2)⟩)
              obtain ⟨s1, hs1⟩ : ∃ s1, (opD s o).1 = s1 := ⟨_, rfl⟩
              rw [hs1] at HT3 HOK3
              clear hs1 HNX HX2 HX4 HN2 HN4 HG2 HT2 y0 y1 y2 y3 y4 HT HI HGB
              obtain ⟨gb, cb, go, co, gw, cw, hrr⟩ := HT3.out.rr
              obtain ⟨_, _, _, u3, _, _, u6⟩ := cells7 hrr.blk
              obtain ⟨ac, hac⟩ : ∃ a, s1.acts = a := ⟨_, rfl⟩
              obtain ⟨dn, hdn⟩ : ∃ a, s1.down = a := ⟨_, rfl⟩
              rw [hac] at u3
              rw [hdn] at u6
              have HAC := Lib.hid (fun w' (hb : Below wc.heap.size wc w') => (show Calls Try.prog 18 #[.pointer (some ⟨p, 0, none⟩)] w' fun e w2 => e = .returned (.int .i64 (ac : Int)) ∧ Below w'.heap.size w' w2 from (acts_calls (HT3.out.sr.below hb)).mono (fun e w2 h => ⟨by rw [← hac]; exact h.1, by rw [h.2]; exact Below.refl _ _⟩)))
              have HDN := Lib.hid (fun w' (hb : Below wc.heap.size wc w') => (show Calls Try.prog 19 #[.pointer (some ⟨p, 0, none⟩)] w' fun e w2 => e = .returned (.bool dn) ∧ Below w'.heap.size w' w2 from (down_calls (HT3.out.sr.below hb)).mono (fun e w2 h => ⟨by rw [← hdn]; exact h.1, by rw [h.2]; exact Below.refl _ _⟩)))
              have HL1 := Lib.hid (fun w' (hb : Below wc.heap.size wc w') => loose_calls (HT3.out.sr.below hb) HOK3.out.1)
              have HL2 := Lib.hid (fun w' (hb : Below wc.heap.size wc w') => rloose_calls (HT3.out.rr.below hb) HOK3.out.1)
              have HSM := Lib.hid (fun w' A1 A2 c1 c2 h1 h2 => rsame_below (W := w') A1 A2 c1 c2 (looseI s1.wet) h1 h2)
              clear hrr hac hdn
              go_upto_region 36 with (fail)
              (try simp only [Act.put, List.setIfInBounds_toArray, List.set_cons_zero, List.set_cons_succ])
              go_region_held (fun w' => w'.cell? ⟨q, 3, none⟩ = some (.int .i64 (ac : Int)) ∧ w'.cell? ⟨q, 6, none⟩ = some (.bool dn) ∧ Hid (Below wc.heap.size wc w'))
                (first | exact ⟨by go_keep, by go_keep, Lib.hid (below_drew1 (Below.refl _ _))⟩ | (go_split_ands; exact ⟨cell_keep0 hb (by assumption), cell_keep0 hb (by assumption), Lib.hid (below_step (Hid.out (by assumption)) hb)⟩))
                (first | (go_at_call 18; go_split_ands; (with_reducible refine (HAC.out _ (Hid.out (by assumption))).mono ?_); rintro e w' ⟨rfl, hb⟩) | (go_at_call 19; go_split_ands; (with_reducible refine (HDN.out _ (Hid.out (by assumption))).mono ?_); rintro e w' ⟨rfl, hb⟩) | (go_at_call 14; go_split_ands; (with_reducible refine (HL1.out _ (Hid.out (by assumption))).mono ?_); rintro e w' ⟨v, rfl, hv, hb⟩; obtain ⟨A8, c8, rfl, _, _⟩ := Kd.R_reads hv; have HV1 := Lib.hid (rC hv); (first | (have HW2 := Lib.hid (Kd.C_below HV2.out hb)) | skip); clear hv) | (go_at_call 29; go_split_ands; (with_reducible refine (HL2.out _ (Hid.out (by assumption))).mono ?_); rintro e w' ⟨v, rfl, hv, hb⟩; obtain ⟨A9, c9, rfl, _, _⟩ := Kd.R_reads hv; have HV2 := Lib.hid (rC hv); (first | (have HW1 := Lib.hid (Kd.C_below HV1.out hb)) | skip); clear hv) | (go_at_call 28; go_split_ands; (first | (with_reducible refine (HSM.out _ _ _ _ _ HW1.out HV2.out).mono ?_) | (with_reducible refine (HSM.out _ _ _ _ _ HV1.out HW2.out).mono ?_)); rintro e w' ⟨rfl, hb⟩))
              all_goals (
                go_split_ands
                go_wp2_with fail
                go_roundg (l.length - (i + 1))
                case measure => have := HLT.out; omega
                case rel => exact ⟨i + 1, s1, by have := HLT.out; omega, by omega, by go_num, Lib.hid (HT3.out.step (Hid.out (by assumption))), HOK3⟩)
          · have hltz : decide ((i : Int) < (l.length : Int)) = false := decide_eq_false (by omega)
            obtain ⟨gb, cb, go, co, gw, cw, hrr⟩ := HT.out.rr
            obtain ⟨u0, _, _, _, _, _, _⟩ := cells7 hrr.blk
            obtain ⟨N, hN⟩ : ∃ n, s.b.length = n := ⟨_, rfl⟩
            have HN5 := Lib.hid hN
            have HNB := Lib.hid (show N ≤ 65536 by have := HI.out.1.bl; have := HI.out.1.n2; omega)
            rw [hN] at u0
            have HCV := Lib.hid (fun w' (hb : Below wr.heap.size wr w') => (show (convert 22 9 (.slice (some ⟨gb, 0, none⟩) N cb)).run Try.prog w' = .ok (.string (strOfNums s.b)) w' from str_run (by have := (hrr.rb.keep (hb.block _ hrr.lt.2.1)).CB (by have := HNB.out; omega); rwa [hN] at this)))
            have c0 := HCV.out wr.drew (below_drew (Below.refl _ _))
            have HSZ := Lib.hid (fun w' (hb : Below wr.heap.size wr w') => (show Calls Try.prog 30 #[.pointer (some ⟨p, 0, none⟩)] w' fun e w2 => e = .returned (.int .i64 (N : Int)) ∧ Below w'.heap.size w' w2 from (size_calls (HT.out.sr.below hb)).mono (fun e w2 h => ⟨by rw [← hN]; exact h.1, by rw [h.2]; exact Below.refl _ _⟩)))
            have HBY := Lib.hid (fun w' (hb : Below wr.heap.size wr w') => (show Calls Try.prog 13 #[.pointer (some ⟨p, 0, none⟩)] w' fun e w2 => ∃ g' cap', e = .returned (.slice (some ⟨g', 0, none⟩) N cap') ∧ (convert 22 9 (.slice (some ⟨g', 0, none⟩) N cap')).run Try.prog w2 = .ok (.string (strOfNums s.b)) w2 ∧ Row w2 g' cap' s.b ∧ Below w'.heap.size w' w2 from (bytes_calls (HT.out.sr.below hb) HI.out.1).mono (fun e w2 h => by
              obtain ⟨g', cap', he, _, hr, hb2⟩ := h
              refine ⟨g', cap', by rw [← hN]; exact he, str_run ?_, hr, hb2⟩
              have := hr.CB (by have := HNB.out; omega)
              rwa [hN] at this)))
            obtain ⟨S, hS⟩ : ∃ S, strOfNums s.b = S := ⟨_, rfl⟩
            rw [hS] at HCV c0 HBY
            have HSS := Lib.hid hS
            clear hrr hN hS
            go_upto_region 38 with (fail)
            (try simp only [Act.put, List.setIfInBounds_toArray, List.set_cons_zero, List.set_cons_succ])
            go_region_held (fun w' => w'.cell? ⟨q, 0, none⟩ = some (.slice (some ⟨gb, 0, none⟩) N cb) ∧ (convert 22 9 (.slice (some ⟨gb, 0, none⟩) N cb)).run Try.prog w' = .ok (.string S) w' ∧ Hid (Below wr.heap.size wr w'))
              (first | exact ⟨by go_keep, c0, Lib.hid (below_drew1 (Below.refl _ _))⟩ | (go_split_ands; exact ⟨cell_keep0 hb (by assumption), HCV.out _ (below_step (Hid.out (by assumption)) hb), Lib.hid (below_step (Hid.out (by assumption)) hb)⟩))
              (first | (go_at_call 30; go_split_ands; (with_reducible refine (HSZ.out _ (Hid.out (by assumption))).mono ?_); rintro e w' ⟨rfl, hb⟩; (first | (have hc9 := (show (convert 22 9 (.slice (some ⟨g9, 0, none⟩) N cap9)).run Try.prog w' = .ok (.string S) w' from by rw [← HSS.out]; exact str_run (by have := (HR9.out.keep (hb.block _ HR9.out.lt)).CB (by have := HNB.out; rw [HN5.out]; omega); rwa [HN5.out] at this))) | skip)) | (go_at_call 13; go_split_ands; (with_reducible refine (HBY.out _ (Hid.out (by assumption))).mono ?_); rintro e w' ⟨g9, cap9, rfl, hc9, hr9, hb⟩; have HR9 := Lib.hid hr9; clear hr9))
            all_goals (
              go_split_ands
              go_wp2_with fail
              go_ret
              refine ⟨by first | rfl | simp, HT.out.below.trans (Below.mono (Hid.out (by assumption)) HT.out.below.size)⟩)
end Go.Proofs.Ytpchobikpamfcaa.Sk
