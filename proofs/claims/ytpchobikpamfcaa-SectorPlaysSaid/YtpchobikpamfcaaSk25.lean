/- The document's disk in memory: the walk of Of. -/
import Derived.Test.YtpchobikpamfcaaSk24
import Derived.Deep.RegionLaw
namespace Go.Proofs.Ytpchobikpamfcaa.Sk
open Go Go.RowKit Go.Maps Go.Proofs Go.Proofs.Ytpchobikpamfcaa.Q Go.Proofs.YtpchobikpamfcaaW.PrintWords Go.Proofs.YtpchobikpamfcaaW.PrintLast Go.Proofs.YtpchobikpamfcaaW.PrintMore
set_option linter.unusedVariables false
set_option linter.unusedSimpArgs false

section
variable {W W' : World}
/-- append of some bytes to a new empty row, as a step of a region that draws -/
theorem app_step {ops : Array Oper} {o : Oper} {a : Act} {w : World} {K : Act → World → Prop} {Q : Exit → Act → World → Prop} {E : Prop} (hgd : o.guard = none) (s x : Operand)
    (ho : o.op = .call { callee := .builtin .append, args := #[s, x], argTypes := #[22, 22] }) {g : Nat} (hs : a.eval s = .slice (some ⟨g, 0, none⟩) 0 0)
    {A : Option Addr} {n c : Nat} {y : By} (hx : a.eval x = .slice A n c) (hy : CB w A n y) (hn : 0 < n) (hl : n ≤ 1000000000)
    (h : ∀ g' c' w', Row w' g' c' y → w.heap.size ≤ g' → c' ≤ 9223372036854775807 → Below w.heap.size w w' → K (a.put o.dst (.slice (some ⟨g', 0, none⟩) n c')) w') :
    if Region.wanted o (yielded ops a.tmps) = true then Oper.wp Try.prog o a w K Q else E := by
  have hw : Region.wanted o (yielded ops a.tmps) = true := by simp [Region.wanted, hgd]
  rw [if_pos hw]
  obtain ⟨i, hi, hz0, hz1, hz2⟩ := info_parts infoU8
  obtain ⟨ad, rfl, hc⟩ := hy.2.2 hn
  have he : (enc y).length = y.length := by unfold enc; rw [List.length_map]
  have hyn := hy.1
  obtain ⟨v', w', hrun, r1, r2⟩ := run_append_arg_grows (P := Try.prog) w 22 o.type 5 i (.int .u8 0) 1 1 Try.underlying22 hi hz0 hz1 hz2 rfl (by decide) ⟨g, 0, none⟩ 0 0 [] rfl (fun j u hj => by simp at hj) ad n c (enc y) (by rw [he, hyn]; omega) (fun j v hv => by
    rw [enc_get] at hv
    obtain ⟨z, hz, rfl⟩ := Option.map_eq_some_iff.1 hv
    obtain ⟨cs, k1, k2, k3⟩ := hc j z hz
    have k2 : cs = [.int .u8 z] := k2
    have := k3 0 (.int .u8 z) (by rw [k2]; rfl)
    have e : j * (Kd.int .u8).sz + 0 = j := by show j * 1 + 0 = j; omega
    rw [e] at this
    exact this) (by omega) (by simp only [maxLen]; omega) (by omega)
  rw [List.nil_append, Nat.zero_add] at r1
  rcases r1.2 with ⟨_, hz⟩ | ⟨g', cap, cur, rfl, hg, hh, hc1, hc2, hc3, hc4⟩
  · omega
  · unfold Oper.wp
    simp [execOp, ho, resolve, invoke, builtin, hs, hx, hrun, Result.andThen]
    refine h g' cap w' ⟨cur.toList.drop y.length, ?_, ?_⟩ hg hc2 ⟨r2.os, r2.tape, r2.output, r2.size, fun k hk => r2.block k hk (by simp)⟩
    · rw [hh]
      congr 2
      rw [Nat.mul_one] at hc4
      rw [← hc4, hyn, List.take_append_drop, Array.toArray_toList]
    · have hcl : cur.toList.length = cap := by simpa using hc3
      rw [List.length_drop, hcl]
      omega
theorem size_drew_ (w : World) : w.drew.heap.size = w.heap.size := rfl
theorem rowB_at {Y X : World} {g3 k : Nat} (hb : Below (Y.alloc (.cells (Array.replicate k (Value.bool false)) 4)).heap.size (Y.alloc (.cells (Array.replicate k (Value.bool false)) 4)) X) (e : g3 = Y.heap.size) : RowB X g3 k (List.replicate k false) := by
  subst e
  exact (rowB_rep Y k).keep (hb.block _ (rowB_rep Y k).lt)
theorem rr_made {w : World} {B g1 c1 g2 c2 g3 : Nat} {b : By} {k : Nat} (hk : k = b.length / 16) (h1 : Row w g1 c1 b) (h2 : Row w g2 c2 b) (h3 : RowB w g3 k (List.replicate k false)) (hne : g1 ≠ g2) (hB : B ≤ g1 ∧ B ≤ g2 ∧ B ≤ g3) (hc : c1 ≤ 9223372036854775807) (hk2 : k ≤ 4096) {q n : Nat} (hq : q = w.heap.size) (hn : b.length = n) :
    RR (w.alloc (.cells #[.slice (some ⟨g1, 0, none⟩) n c1, .slice (some ⟨g2, 0, none⟩) n c2, .slice (some ⟨g3, 0, none⟩) k k, .int .i64 0, .bool false, .int .i64 0, .bool false] 52)) B q (made b) := by
  subst hk hn hq
  have hb := below_alloc (Below.refl w.heap.size w) (.cells #[.slice (some ⟨g1, 0, none⟩) b.length c1, .slice (some ⟨g2, 0, none⟩) b.length c2, .slice (some ⟨g3, 0, none⟩) (b.length / 16) (b.length / 16), .int .i64 0, .bool false, .int .i64 0, .bool false] 52)
  refine ⟨g1, c1, g2, c2, g3, b.length / 16, ?_, h1.keep (hb.block _ h1.lt), h2.keep (hb.block _ h2.lt), h3.keep (hb.block _ h3.lt), hne, ⟨by have := h1.lt; omega, hB.1, hB.2.1, hB.2.2⟩, hc, by omega⟩
  rw [blk_new]
  show some (Obj.cells #[_, _, _, _, _, _, _] _ _) = some (Obj.cells #[_, _, .slice _ (List.replicate (b.length / 16) false).length _, _, _, _, _] _ _)
  rw [List.length_replicate]
  rfl
set_option maxHeartbeats 4000000 in
set_option maxRecDepth 100000 in
theorem rof_nil (A : Option Addr) (c : Nat) (b : By) (hb : b.length ≤ 140737488355328) (h : okLen b.length = false) : Calls Try.prog 22 #[.slice A b.length c] W fun e w' => e = .returned (.pointer none) ∧ w' = W := by
  have key := okLen_no h
  obtain ⟨n, hn⟩ : ∃ n, b.length = n := ⟨_, rfl⟩
  rw [hn] at key hb ⊢
  clear hn h
  rcases key with k1 | ⟨k1, k2⟩ | ⟨k1, k2, k3⟩
  · have z : ((n : Int) == 0) = true := beq_iff_eq.2 (by omega)
    clear k1
    go_enter Try.func22, Try.ntmps22
    go_wp2_with fail
    go_ret
    exact ⟨rfl, rfl⟩
  · have z : ((n : Int) == 0) = false := beq_eq_false_iff_ne.2 (by omega)
    have z2 : ¬ ((n : Int) % 16 = 0) := by omega
    have q : 0 ≤ (n : Int) := by omega
    clear k1 k2
    go_enter Try.func22, Try.ntmps22
    go_wp2_with fail
    go_ret
    exact ⟨rfl, rfl⟩
  · have z : ((n : Int) == 0) = false := beq_eq_false_iff_ne.2 (by omega)
    have z2 : (n : Int) % 16 = 0 := by omega
    have z3 : (n : Int) / 16 > 4096 := by omega
    have q : 0 ≤ (n : Int) := by omega
    clear k1 k2 k3
    go_enter Try.func22, Try.ntmps22
    go_wp2_with fail
    go_ret
    exact ⟨rfl, rfl⟩
set_option maxHeartbeats 8000000 in
set_option maxRecDepth 100000 in
theorem rof_calls (A : Option Addr) (c : Nat) (b : By) (hb : CB W A b.length b) (h : okLen b.length = true) : Calls Try.prog 22 #[.slice A b.length c] W fun e w' => ∃ q, e = .returned (.pointer (some ⟨q, 0, none⟩)) ∧ RR w' W.heap.size q (made b) ∧ Below W.heap.size W w' := by
  obtain ⟨k1, k2, k3⟩ := okLen_iff h
  have HC := Lib.hid (fun w' (hw : Below W.heap.size W w') => Kd.C_below hb hw)
  obtain ⟨n, hn⟩ : ∃ n, b.length = n := ⟨_, rfl⟩
  have HN := Lib.hid hn
  rw [hn] at k1 k2 k3 HC ⊢
  obtain ⟨k, hk⟩ : ∃ k, n / 16 = k := ⟨_, rfl⟩
  have HK := Lib.hid hk
  have z : ((n : Int) == 0) = false := beq_eq_false_iff_ne.2 (by omega)
  have z2 : (n : Int) % 16 = 0 := by omega
  have z3 : ¬ (n : Int) / 16 > 4096 := by omega
  have z4 : (n : Int) / 16 = (k : Int) := by omega
  have q : 0 ≤ (n : Int) := by omega
  have hk4 : k ≤ 4096 := by omega
  have hmk := fun w => make_bools k (by omega) w
  have hwk : IntKind.i64.wrap (k : Int) = (k : Int) := IntWalk.i64_in _ (by omega)
  clear hb h k2 hn hk
  go_enter Try.func22, Try.ntmps22
  go_wp2_with fail
  go_region_law (first | (refine app_step rfl (.tmp 18) (.tmp 19) rfl rfl rfl (HC.out _ ?hB) k1 (by omega) ?_; (case hB => repeat (first | exact Below.refl _ _ | refine below_alloc ?_ _ | refine below_drew ?_ | refine below_step ?_ hbB)); intro gA cA wA hrA hgA hcA hbA) | (refine app_step rfl (.tmp 21) (.tmp 22) rfl rfl rfl (HC.out _ ?hB) k1 (by omega) ?_; (case hB => repeat (first | exact Below.refl _ _ | refine below_alloc ?_ _ | refine below_drew ?_ | refine below_step ?_ hbA)); intro gB cB wB hrB hgB hcB hbB))
  all_goals (go_wp2_with fail)
  all_goals go_ret
  all_goals (
    have sA := Below.size (show Below W.heap.size W wA from by repeat (first | exact Below.refl _ _ | refine below_alloc ?_ _ | refine below_drew ?_ | refine below_step ?_ hbA | refine below_step ?_ hbB))
    have sB := Below.size (show Below W.heap.size W wB from by repeat (first | exact Below.refl _ _ | refine below_alloc ?_ _ | refine below_drew ?_ | refine below_step ?_ hbA | refine below_step ?_ hbB))
    have hA := Nat.le_trans (Below.size (show Below W.heap.size W _ from by repeat (first | exact Below.refl _ _ | refine below_alloc ?_ _ | refine below_drew ?_ | refine below_step ?_ hbA | refine below_step ?_ hbB))) hgA
    have hB := Nat.le_trans (Below.size (show Below W.heap.size W _ from by repeat (first | exact Below.refl _ _ | refine below_alloc ?_ _ | refine below_drew ?_ | refine below_step ?_ hbA | refine below_step ?_ hbB))) hgB
    refine ⟨_, rfl, rr_made (by rw [HN.out]; exact HK.out.symm) (hrA.keep (Below.block (B := wA.heap.size) (by repeat (first | exact Below.refl _ _ | refine below_alloc ?_ _ | refine below_drew ?_ | refine below_step ?_ hbA | refine below_step ?_ hbB)) gA hrA.lt)) (hrB.keep (Below.block (B := wB.heap.size) (by repeat (first | exact Below.refl _ _ | refine below_alloc ?_ _ | refine below_drew ?_ | refine below_step ?_ hbA | refine below_step ?_ hbB)) gB hrB.lt)) ?h3 ?hne ⟨hA, hB, ?hg3⟩ hcA hk4 ?hq HN.out, ?hbel⟩
    case h3 => first | (refine rowB_at (Y := wA) ?_ ?eq; (case eq => first | rfl | (simp only [size_alloc, size_drew_]; done)); (repeat (first | exact Below.refl _ _ | refine below_alloc ?_ _ | refine below_drew ?_ | refine below_step ?_ hbA | refine below_step ?_ hbB)); done) | (refine rowB_at (Y := wB) ?_ ?eq; (case eq => first | rfl | (simp only [size_alloc, size_drew_]; done)); (repeat (first | exact Below.refl _ _ | refine below_alloc ?_ _ | refine below_drew ?_ | refine below_step ?_ hbA | refine below_step ?_ hbB)); done) | (refine rowB_at (Y := (wA.alloc (Obj.cells #[] 5))) ?_ ?eq; (case eq => first | rfl | (simp only [size_alloc, size_drew_]; done)); (repeat (first | exact Below.refl _ _ | refine below_alloc ?_ _ | refine below_drew ?_ | refine below_step ?_ hbA | refine below_step ?_ hbB)); done) | (refine rowB_at (Y := (wB.alloc (Obj.cells #[] 5))) ?_ ?eq; (case eq => first | rfl | (simp only [size_alloc, size_drew_]; done)); (repeat (first | exact Below.refl _ _ | refine below_alloc ?_ _ | refine below_drew ?_ | refine below_step ?_ hbA | refine below_step ?_ hbB)); done) | (refine rowB_at (Y := W) ?_ ?eq; (case eq => first | rfl | (simp only [size_alloc, size_drew_]; done)); (repeat (first | exact Below.refl _ _ | refine below_alloc ?_ _ | refine below_drew ?_ | refine below_step ?_ hbA | refine below_step ?_ hbB)); done) | (refine rowB_at (Y := (W.alloc (Obj.cells #[] 5))) ?_ ?eq; (case eq => first | rfl | (simp only [size_alloc, size_drew_]; done)); (repeat (first | exact Below.refl _ _ | refine below_alloc ?_ _ | refine below_drew ?_ | refine below_step ?_ hbA | refine below_step ?_ hbB)); done) | (refine rowB_at (Y := ((W.alloc (Obj.cells #[] 5)).alloc (Obj.cells #[] 5))) ?_ ?eq; (case eq => first | rfl | (simp only [size_alloc, size_drew_]; done)); (repeat (first | exact Below.refl _ _ | refine below_alloc ?_ _ | refine below_drew ?_ | refine below_step ?_ hbA | refine below_step ?_ hbB)); done) | fail
    case hne => first | (refine Nat.ne_of_lt (Nat.lt_of_lt_of_le hrA.lt (Nat.le_trans (Below.size (B := wA.heap.size) (w := wA) ?_) hgB)); focus ((repeat (first | exact Below.refl _ _ | refine below_alloc ?_ _ | refine below_drew ?_ | refine below_step ?_ hbA | refine below_step ?_ hbB)); done)) | (refine Nat.ne_of_gt (Nat.lt_of_lt_of_le hrB.lt (Nat.le_trans (Below.size (B := wB.heap.size) (w := wB) ?_) hgA)); focus ((repeat (first | exact Below.refl _ _ | refine below_alloc ?_ _ | refine below_drew ?_ | refine below_step ?_ hbA | refine below_step ?_ hbB)); done))
    case hg3 => first | omega | (simp only [size_alloc] at *; omega)
    case hq => simp only [size_alloc, size_drew_]
    case hbel => repeat (first | exact Below.refl _ _ | refine below_alloc ?_ _ | refine below_drew ?_ | refine below_step ?_ hbA | refine below_step ?_ hbB))
end
end Go.Proofs.Ytpchobikpamfcaa.Sk
