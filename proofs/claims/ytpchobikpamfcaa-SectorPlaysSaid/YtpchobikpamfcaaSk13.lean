/- The walk of the law's head. -/
import Derived.Test.YtpchobikpamfcaaSk12
namespace Go.Proofs.Ytpchobikpamfcaa.Sk
open Go Go.RowKit Go.Maps Go.Proofs Go.Proofs.YtpchobikpamfcaaW.PrintWords Go.Proofs.YtpchobikpamfcaaW.PrintLast Go.Proofs.YtpchobikpamfcaaW.PrintMore
set_option linter.unusedVariables false
set_option linter.unusedSimpArgs false

section
variable {W W' w : World} {p g cap m : Nat} {s t : D}
/-- Write of bytes that lie in a block behind the disk's -/
theorem write_built (h : SR w p g cap m s) (o : Ok s) (ha : s.acts ≤ 1000000000) (a : Int) (x : By) (hl : x.length ≤ 9223372036854775807) :
    Calls Try.prog 12 #[.pointer (some ⟨p, 0, none⟩), .int .i64 a, .slice (some ⟨w.heap.size, 0, none⟩) x.length x.length] (w.alloc (.cells (enc x).toArray 5)) fun e w' => e = .returned (.int .i64 (s.write a x).2) ∧ SR w' p g cap m (s.write a x).1 ∧ Fr w w' p g m := by
  have hb := below_alloc (Below.refl w.heap.size w) (.cells (enc x).toArray 5)
  have hx : CB (w.alloc (.cells (enc x).toArray 5)) (some ⟨w.heap.size, 0, none⟩) x.length x := part_CB (blk_new w _) hl
  refine (write_calls (h.below hb) o ha a x hx (fun ad e _ => ?_)).mono fun e w' ⟨h1, h2, h3⟩ => ⟨h1, h2, (Fr.of_below hb).trans h3⟩
  cases e
  have := h.lt
  exact ⟨by show w.heap.size ≠ p; omega, by show w.heap.size ≠ g; omega, by show w.heap.size ≠ m; omega⟩
theorem bools_CB {w : World} {gp : Nat} {l : List Bool} {t : TypeId} (h : w.heap[gp]? = some (.cells (l.map Value.bool).toArray t (0, 0))) (hl : l.length ≤ 9223372036854775807) : CBool w (some ⟨gp, 0, none⟩) l.length l := by
  refine ⟨rfl, hl, fun _ => ⟨_, rfl, fun j p hj => ⟨[.bool p], rfl, rfl, fun i u hu => ?_⟩⟩⟩
  have e : i = 0 := by
    rcases i with _ | i
    · rfl
    · cases hu
  subst e
  cases hu
  have : (⟨gp, 0, none⟩ : Addr).add (j * Kd.bool.sz + 0) = ⟨gp, j, none⟩ := by
    rw [add_at]; show (⟨gp, 0 + (j * 1 + 0), none⟩ : Addr) = _; congr 1; omega
  rw [this]
  refine (blk_cell h j).trans ?_
  rw [List.getElem?_toArray, List.getElem?_map, hj]
  rfl
theorem crash_built (h : SR w p g cap m s) (o : Ok s) (keep : List Bool) (hl : keep.length ≤ 9223372036854775807) :
    Calls Try.prog 15 #[.pointer (some ⟨p, 0, none⟩), .slice (some ⟨w.heap.size, 0, none⟩) keep.length keep.length] (w.alloc (.cells (keep.map Value.bool).toArray 4)) fun e w' => e = .returned (.tuple #[]) ∧ SR w' p g cap m (s.crash keep) ∧ Fr w w' p g m := by
  have hb := below_alloc (Below.refl w.heap.size w) (.cells (keep.map Value.bool).toArray 4)
  refine (crash_calls (h.below hb) o keep (bools_CB (blk_new w _) hl) (fun ad e _ => ?_)).mono fun e w' ⟨h1, h2, h3⟩ => ⟨h1, h2, (Fr.of_below hb).trans h3⟩
  cases e
  have := h.lt
  exact ⟨by show w.heap.size ≠ p; omega, by show w.heap.size ≠ g; omega, by show w.heap.size ≠ m; omega⟩
theorem Fr.weaken {B : Nat} {w w1 w2 : World} (hb : Below B w w1) (hf : Fr w1 w2 p g m) (hp : B ≤ p) (hg : B ≤ g) (hm : B ≤ m) (hB : B ≤ w.heap.size) : Below B w w2 := hb.trans (hf.to_below hp hg hm (Nat.le_trans hB hb.size))
theorem add_ne' (a : Addr) (j : Nat) (h : j ≠ 0) : a.add j = ⟨a.block, a.off + j, none⟩ := by unfold Addr.add; rw [if_neg h]
def d0 : D := made (List.replicate (3 * 16) 0)
def d1 : D := (d0.write 15 [1, 2]).1
def d2 : D := (d1.write 47 [1, 2]).1
def d3 : D := d2.crash [false, true]
theorem e1 : (d0.write 15 [1, 2]).2 = 0 := by decide +kernel
theorem e2 : (d1.write 47 [1, 2]).2 = 1 := by decide +kernel
theorem e3 : (d3.read 14 4) = ([0, 0, 2, 0], 0) := by decide +kernel
theorem e4 : looseI d1.wet = [0, 1] := by decide +kernel
theorem e5 : d3.acts = 1 := by decide +kernel
theorem e6 : d3.b.length = 48 := by decide +kernel
theorem bytes_ok {x : By} (h : x = [1, 2]) : ∀ y ∈ x, 0 ≤ y ∧ y ≤ 255 := by subst h; decide
theorem ok0 : Ok d0 := ok_made (by decide +kernel) (fun y hy => by have := List.eq_of_mem_replicate hy; omega)
theorem ok1 : Ok d1 := ok_write ok0 _ _ (bytes_ok rfl)
theorem ok2 : Ok d2 := ok_write ok1 _ _ (bytes_ok rfl)
theorem ok3 : Ok d3 := ok_crash ok2 _
theorem a1 : d1.acts ≤ 1000000000 := by decide +kernel
set_option maxHeartbeats 4000000 in
set_option maxRecDepth 100000 in
theorem head_calls (W : World) : Calls Try.prog 9 #[] W fun e w' => e = .returned (.bool true) ∧ Below W.heap.size W w' := by
  have HN : Hid (∀ W, Calls Try.prog 17 #[.int .i64 3] W fun e w' => ∃ p g cap m, e = .returned (.pointer (some ⟨p, 0, none⟩)) ∧ SR w' p g cap m d0 ∧ W.heap.size ≤ p ∧ W.heap.size ≤ g ∧ W.heap.size ≤ m ∧ Below W.heap.size W w') := Lib.hid (fun W => new_calls 3 (by omega) (by omega) W)
  have HN0 := Lib.hid (fun W => new_nil 0 (by omega) W)
  go_enter Try.func9, Try.ntmps9
  go_wp2_with fail
  refine (HN.out _).mono ?_
  rintro e w1 ⟨p, g, cap, m, rfl, hs, hp, hg, hm, hb⟩
  have HP := Lib.hid (And.intro hp (And.intro hg hm))
  have HS1 := Lib.hid hs
  have HB1 := Lib.hid hb
  clear hs hp hg hm hb HN
  go_wp2_with fail
  refine (show Calls Try.prog 12 #[.pointer (some ⟨p, 0, none⟩), .int .i64 15, .slice (some ⟨w1.heap.size, 0, none⟩) 2 2] (w1.alloc (.cells #[.int .u8 1, .int .u8 2] 5)) _ from write_built HS1.out ok0 (Nat.zero_le _) 15 [1, 2] (by decide)).mono ?_
  rintro e w2 ⟨he, hs, hf⟩
  rw [e1] at he
  subst he
  have HS2 : Hid (SR w2 p g cap m d1) := Lib.hid hs
  have HB2 := Lib.hid (Fr.weaken HB1.out hf HP.out.1 HP.out.2.1 HP.out.2.2 (Nat.le_refl _))
  clear hs hf HS1 HB1
  go_wp2_with fail
  refine (loose_calls HS2.out ok1).mono ?_
  rintro e w3 ⟨v, rfl, hv, hb⟩
  rw [e4] at hv
  have HV := Lib.hid (Kd.R_mono (Kd.R_bound hv) (fun k hk => hk.2.1))
  obtain ⟨Av, cv, rfl, _, _⟩ := Kd.R_reads hv
  have HS3 := Lib.hid (HS2.out.below hb)
  have HB3 := Lib.hid (below_step HB2.out hb)
  have HLT := Lib.hid HS2.out.lt
  clear hv hb HS2 HB2
  go_wp2_with fail
  refine (show Calls Try.prog 12 #[.pointer (some ⟨p, 0, none⟩), .int .i64 47, .slice (some ⟨w3.heap.size, 0, none⟩) 2 2] (w3.alloc (.cells #[.int .u8 1, .int .u8 2] 5)) _ from write_built HS3.out ok1 a1 47 [1, 2] (by decide)).mono ?_
  rintro e w4 ⟨he, hs, hf⟩
  rw [e2] at he
  subst he
  have HS4 : Hid (SR w4 p g cap m d2) := Lib.hid hs
  have HB4 := Lib.hid (Fr.weaken HB3.out hf HP.out.1 HP.out.2.1 HP.out.2.2 (Nat.le_refl _))
  have HV4 := Lib.hid (Kd.R_step HV.out (fun k (hk : w2.heap.size ≤ k) hk2 => hf.block k hk2 (by have := HLT.out; omega) (by have := HLT.out; omega) (by have := HLT.out; omega)))
  clear hs hf HS3 HB3 HV
  go_wp2_with fail
  refine (show Calls Try.prog 15 #[.pointer (some ⟨p, 0, none⟩), .slice (some ⟨w4.heap.size, 0, none⟩) 2 2] (w4.alloc (.cells #[.bool false, .bool true] 4)) _ from crash_built HS4.out ok2 [false, true] (by decide)).mono ?_
  rintro e w5 ⟨rfl, hs, hf⟩
  have HS5 : Hid (SR w5 p g cap m d3) := Lib.hid hs
  have HB5 := Lib.hid (Fr.weaken HB4.out hf HP.out.1 HP.out.2.1 HP.out.2.2 (Nat.le_refl _))
  have HV5 := Lib.hid (Kd.R_step HV4.out (fun k (hk : w2.heap.size ≤ k) hk2 => hf.block k hk2 (by have := HLT.out; omega) (by have := HLT.out; omega) (by have := HLT.out; omega)))
  clear hs hf HS4 HB4 HV4
  go_wp2_with fail
  refine (read_calls HS5.out ok3 14 4).mono ?_
  rintro e w6 ⟨A6, c6, he, hR, hb⟩
  rw [e3] at he hR
  subst he
  have HS6 := Lib.hid (HS5.out.below hb)
  have HB6 := Lib.hid (below_step HB5.out hb)
  have hV6 := rC (Kd.R_below HV5.out hb)
  have hR6 := rC hR
  obtain ⟨av, ea, h1⟩ := Kd.at_int hV6 1 (by decide) (by decide)
  change w6.cell? (av.add 1) = some (.int .i64 1) at h1
  obtain ⟨ar, er, r1⟩ := Kd.at_int hR6 1 (by decide) (by decide)
  change w6.cell? (ar.add 1) = some (.int .u8 0) at r1
  obtain ⟨ar2, er2, r2⟩ := Kd.at_int hR6 2 (by decide) (by decide)
  change w6.cell? (ar2.add 2) = some (.int .u8 2) at r2
  rw [er] at er2
  cases er2
  have HA := Lib.hid (show Calls Try.prog 18 #[.pointer (some ⟨p, 0, none⟩)] w6 fun e w' => e = .returned (.int .i64 1) ∧ w' = w6 from (acts_calls HS6.out).mono (fun e w' h => by rw [e5] at h; exact h))
  have HZ := Lib.hid (show Calls Try.prog 30 #[.pointer (some ⟨p, 0, none⟩)] w6 fun e w' => e = .returned (.int .i64 48) ∧ w' = w6 from (size_calls HS6.out).mono (fun e w' h => by rw [e6] at h; exact h))
  subst ea er
  rw [add_ne' _ _ (by decide)] at h1 r1 r2
  clear hV6 hR6 hb hR HV5 HS5 HB5
  go_wp2_with (first | (go_at_call 18; refine HA.out.mono ?_; rintro e w' ⟨rfl, rfl⟩) | (go_at_call 30; refine HZ.out.mono ?_; rintro e w' ⟨rfl, rfl⟩) | (go_at_call 17; refine (HN0.out _).mono ?_; rintro e w' ⟨rfl, rfl⟩))
  go_ret
  exact ⟨rfl, HB6.out⟩
end
end Go.Proofs.Ytpchobikpamfcaa.Sk
