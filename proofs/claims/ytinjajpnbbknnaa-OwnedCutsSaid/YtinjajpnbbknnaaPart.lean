/- The walk of part.Right: may that be a store? Its closures, and part.rising at nodes and turns. -/
import Derived.Test.YtinjajpnbbknnaaPathB
import Derived.Test.YtinjajpnbbknnaaINode
import Derived.Test.YtinjajpnbbknnaaITurn
import Derived.Test.YtinjajpnbbknnaaRNode
import Derived.Test.YtinjajpnbbknnaaRTurn
import Derived.WalkLawsBesides
import Derived.Lib.Hide
import Derived.Deep.LoopGhost
import Derived.Deep.RegionHeld3
import Derived.Test.YtinjajpnbbknnaaQx4
namespace Go.Proofs.Ytinjajpnbbknnaa.Part
open Go Go.RowKit Go.Proofs.Ytinjajpnbbknnaa.PathF Go.Proofs.Ytinjajpnbbknnaa.Q Go.Proofs.YtinjajpnbbknnaaW.PrintWords Go.Proofs.YtinjajpnbbknnaaW.PrintLast Go.Proofs.YtinjajpnbbknnaaW.PrintMore
set_option linter.unusedVariables false

def inB (n least most : Int) : Bool := decide (least ≤ n) && decide (n ≤ most)
theorem within_is (n least most : Int) : part_within.f n least most = some (inB n least most) := by
  unfold part_within.f inB
  by_cases h : n ≥ least
  · rw [if_pos h, decide_eq_true (show least ≤ n from h)]; rfl
  · rw [if_neg h, decide_eq_false (show ¬ least ≤ n from h)]; rfl
def fieldsB (p d : ByteArray) (v least o : Int) : Bool := isP p && (decide (d.size ≤ 256) && (inB v least 281474976710656 && inB o 0 1099511627776))
theorem fields_is (p d : ByteArray) (v least o : Int) : part_fields.f p d v least o = some (fieldsB p d v least o) := by
  unfold part_fields.f fieldsB
  rw [PathF.right_is, Option.bind_some]
  cases isP p with
  | false => rfl
  | true =>
    rw [if_pos rfl]
    by_cases h : (d.size : Int) ≤ 256
    · rw [if_pos h, within_is, Option.bind_some, decide_eq_true (show d.size ≤ 256 by omega)]
      cases inB v least 281474976710656 with
      | false => rfl
      | true => rw [if_pos rfl, within_is, Option.bind_some]; rfl
    · rw [if_neg h, decide_eq_false (show ¬ d.size ≤ 256 by omega)]; rfl
/-- is a node strange; is a turn odd -/
def strangeB (x : S40) : Bool := (x.f3 != 0) || !fieldsB x.f0 x.f1 x.f2 0 x.f4
def oddB (x : S59) : Bool := !isP x.f0 || !inB x.f1 1 10000
theorem strange_is (x : S40) (w : World) : Calls Try.prog 60 #[.agg #[.string x.f0, .string x.f1, .int .i64 x.f2, .int .i64 x.f3, .int .i64 x.f4]] w fun e w' => e = .returned (.bool (strangeB x)) ∧ Below w.heap.size w w' := by
  obtain ⟨b, hb⟩ : ∃ b, fieldsB x.f0 x.f1 x.f2 0 x.f4 = b := ⟨_, rfl⟩
  have HF := Lib.hid (fun W => part_fields.calls x.f0 x.f1 x.f2 0 x.f4 b W (by rw [fields_is, hb]))
  unfold strangeB
  rw [hb]
  clear hb
  by_cases h3 : x.f3 = 0
  · have h3b : (x.f3 != 0) = false := by rw [h3]; rfl
    rw [h3b]
    clear h3
    go_enter Try.func60, Try.ntmps60
    go_wp2_with fail
    refine (HF.out _).mono ?_
    rintro e w1 ⟨rfl, hb1⟩
    have HB1 := Lib.hid (below_step (below_alloc (Below.refl _ _) _) hb1)
    clear hb1
    go_wp2_with fail
    go_ret
    exact ⟨by simp, HB1.out⟩
  · have h3b : (x.f3 != 0) = true := bne_iff_ne.2 h3
    rw [h3b]
    clear h3
    go_enter Try.func60, Try.ntmps60
    go_wp2_with fail
    go_ret
    exact ⟨by simp, below_alloc (Below.refl _ _) _⟩
theorem odd_is (x : S59) (w : World) : Calls Try.prog 63 #[.agg #[.string x.f0, .int .i64 x.f1]] w fun e w' => e = .returned (.bool (oddB x)) ∧ Below w.heap.size w w' := by
  obtain ⟨b, hb⟩ : ∃ b, inB x.f1 1 10000 = b := ⟨_, rfl⟩
  have HW := Lib.hid (fun W => (part_within.calls x.f1 1 10000 b W (by rw [within_is, hb])).mono (fun e w' (h : _ ∧ _) => And.intro h.1 h.2.below))
  unfold oddB
  rw [hb]
  clear hb
  cases hp : isP x.f0 with
  | false =>
    have HP := Lib.hid (fun W => path_Right.calls x.f0 false W (by rw [PathF.right_is, hp]))
    clear hp
    go_enter Try.func63, Try.ntmps63
    go_wp2_with fail
    refine (HP.out _).mono ?_
    rintro e w1 ⟨rfl, hb1⟩
    have HB1 := Lib.hid (below_step (below_alloc (Below.refl _ _) _) hb1)
    clear hb1
    go_wp2_with fail
    go_ret
    exact ⟨by simp, HB1.out⟩
  | true =>
    have HP := Lib.hid (fun W => path_Right.calls x.f0 true W (by rw [PathF.right_is, hp]))
    clear hp
    go_enter Try.func63, Try.ntmps63
    go_wp2_with fail
    refine (HP.out _).mono ?_
    rintro e w1 ⟨rfl, hb1⟩
    have hk : w1.heap[w.heap.size]? = some (.cells #[.string x.f0, .int .i64 x.f1] 59 (0, 0)) := blk_below (heap_alloc_new w _) hb1
    have q1 : w1.cell? ⟨w.heap.size, 1, none⟩ = some (.int .i64 x.f1) := (blk_cell hk 1).trans rfl
    have HB1 := Lib.hid (below_step (below_alloc (Below.refl _ _) _) hb1)
    clear hb1 hk
    go_wp2_with fail
    refine (HW.out _).mono ?_
    rintro e w2 ⟨rfl, hb2⟩
    have HB2 := Lib.hid (below_step HB1.out hb2)
    clear hb2
    go_wp2_with fail
    go_ret
    exact ⟨by simp, HB2.out⟩
theorem nodePath (W : World) (x : S40) : Calls Try.prog 66 #[.agg #[.string x.f0, .string x.f1, .int .i64 x.f2, .int .i64 x.f3, .int .i64 x.f4]] W fun e w' => e = .returned (.string x.f0) ∧ Below W.heap.size W w' := by
  go_enter Try.func66, Try.ntmps66
  go_wp2_with fail
  go_ret
  exact ⟨rfl, below_alloc (Below.refl _ _) _⟩
theorem turnDir (W : World) (x : S59) : Calls Try.prog 68 #[.agg #[.string x.f0, .int .i64 x.f1]] W fun e w' => e = .returned (.string x.f0) ∧ Below W.heap.size W w' := by
  go_enter Try.func68, Try.ntmps68
  go_wp2_with fail
  go_ret
  exact ⟨rfl, below_alloc (Below.refl _ _) _⟩
/-- may that be a store? -/
def storeB (n : List S40) (t : List S59) : Bool := !n.any strangeB && (!t.any oddB && (RNode.risB n && RTurn.risB t))
set_option maxHeartbeats 4000000 in
set_option maxRecDepth 100000 in
theorem right_calls (A : Option Addr) (c : Nat) (n : List S40) (A2 : Option Addr) (c2 : Nat) (t : List S59) (w : World) (hr : Kd.C k40 w A n.length n) (hl : n.length ≤ 4611686018427387904) (hr2 : Kd.C k59 w A2 t.length t) (hl2 : t.length ≤ 4611686018427387904) :
    Calls Try.prog 39 #[.agg #[.slice A n.length c, .slice A2 t.length c2]] w fun e w' => e = .returned (.bool (storeB n t)) ∧ Below w.heap.size w w' := by
  have H1 := Lib.hid (fun W (hW : Below w.heap.size w W) => INode.contains_calls 60 #[] (enters_of Try.func60 (by kernel_rfl) rfl) strangeB A c n W (fun W x _ _ => strange_is x W) (Kd.C_below hr hW) hl)
  have H2 := Lib.hid (fun W (hW : Below w.heap.size w W) => ITurn.contains_calls 63 #[] (enters_of Try.func63 (by kernel_rfl) rfl) oddB A2 c2 t W (fun W x _ _ => odd_is x W) (Kd.C_below hr2 hW) hl2)
  have H3 := Lib.hid (fun W (hW : Below w.heap.size w W) => RNode.rising_calls 66 (enters_of Try.func66 (by kernel_rfl) rfl) nodePath A c n W (Kd.C_below hr hW) hl)
  have H4 := Lib.hid (fun W (hW : Below w.heap.size w W) => RTurn.rising_calls 68 (enters_of Try.func68 (by kernel_rfl) rfl) turnDir A2 c2 t W (Kd.C_below hr2 hW) hl2)
  unfold storeB
  obtain ⟨b1, e1⟩ : ∃ b, n.any strangeB = b := ⟨_, rfl⟩
  obtain ⟨b2, e2⟩ : ∃ b, t.any oddB = b := ⟨_, rfl⟩
  obtain ⟨b3, e3⟩ : ∃ b, RNode.risB n = b := ⟨_, rfl⟩
  obtain ⟨b4, e4⟩ : ∃ b, RTurn.risB t = b := ⟨_, rfl⟩
  rw [e1] at H1
  rw [e2] at H2
  rw [e3] at H3
  rw [e4] at H4
  rw [e1, e2, e3, e4]
  clear e1 e2 e3 e4 hr hr2
  obtain ⟨nl, hnl⟩ : ∃ nl, n.length = nl := ⟨_, rfl⟩
  obtain ⟨tl, htl⟩ : ∃ tl, t.length = tl := ⟨_, rfl⟩
  rw [hnl] at H1 H3 hl ⊢
  rw [htl] at H2 H4 hl2 ⊢
  clear hnl htl
  go_enter Try.func39, Try.ntmps39
  go_wp2_with fail
  refine (H1.out _ (below_alloc (Below.refl _ _) _)).mono ?_
  rintro e w1 ⟨rfl, hb1⟩
  have HK1 := Lib.hid (show w1.heap[w.heap.size]? = some (.cells #[.slice A nl c, .slice A2 tl c2] 34 (0, 0)) from blk_below (heap_alloc_new w _) hb1)
  have HB1 := Lib.hid (below_step (below_alloc (Below.refl _ _) _) hb1)
  have q0 : w1.cell? ⟨w.heap.size, 0, none⟩ = some (.slice A nl c) := (blk_cell HK1.out 0).trans rfl
  have q1 : w1.cell? ⟨w.heap.size, 1, none⟩ = some (.slice A2 tl c2) := (blk_cell HK1.out 1).trans rfl
  clear hb1
  go_wp2_with fail
  refine (H2.out _ HB1.out).mono ?_
  rintro e w2 ⟨rfl, hb2⟩
  have HK2 := Lib.hid (show w2.heap[w.heap.size]? = some (.cells #[.slice A nl c, .slice A2 tl c2] 34 (0, 0)) from blk_below HK1.out hb2)
  have HB2 := Lib.hid (below_step HB1.out hb2)
  clear hb2 q0 q1
  have q0 : w2.cell? ⟨w.heap.size, 0, none⟩ = some (.slice A nl c) := (blk_cell HK2.out 0).trans rfl
  have q1 : w2.cell? ⟨w.heap.size, 1, none⟩ = some (.slice A2 tl c2) := (blk_cell HK2.out 1).trans rfl
  cases b1 with
  | true =>
    go_wp2_with fail
    go_ret
    exact ⟨by simp, HB2.out⟩
  | false =>
    cases b2 with
    | true =>
      go_wp2_with fail
      go_ret
      exact ⟨by simp, HB2.out⟩
    | false =>
      go_wp2_with fail
      refine (H3.out _ HB2.out).mono ?_
      rintro e w3 ⟨rfl, hb3⟩
      have HK3 := Lib.hid (show w3.heap[w.heap.size]? = some (.cells #[.slice A nl c, .slice A2 tl c2] 34 (0, 0)) from blk_below HK2.out hb3)
      have HB3 := Lib.hid (below_step HB2.out hb3)
      clear hb3 q0 q1
      have q0 : w3.cell? ⟨w.heap.size, 0, none⟩ = some (.slice A nl c) := (blk_cell HK3.out 0).trans rfl
      have q1 : w3.cell? ⟨w.heap.size, 1, none⟩ = some (.slice A2 tl c2) := (blk_cell HK3.out 1).trans rfl
      cases b3 with
      | false =>
        go_wp2_with fail
        go_ret
        exact ⟨by simp, HB3.out⟩
      | true =>
        go_wp2_with fail
        refine (H4.out _ HB3.out).mono ?_
        rintro e w4 ⟨rfl, hb4⟩
        have HB4 := Lib.hid (below_step HB3.out hb4)
        clear hb4
        go_wp2_with fail
        go_ret
        exact ⟨by simp, HB4.out⟩
end Go.Proofs.Ytinjajpnbbknnaa.Part
