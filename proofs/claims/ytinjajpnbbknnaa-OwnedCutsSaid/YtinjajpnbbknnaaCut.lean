/- The closures of owned.Cut. -/
import Derived.Test.YtinjajpnbbknnaaPNode
import Derived.Test.YtinjajpnbbknnaaPTurn
import Derived.Deep.RegionHeld3
import Derived.Test.YtinjajpnbbknnaaQx7
import Derived.Test.YtinjajpnbbknnaaQx4
namespace Go.Proofs.Ytinjajpnbbknnaa.Cut
open Go Go.RowKit Go.Proofs.Ytinjajpnbbknnaa.Q Go.Proofs.YtinjajpnbbknnaaW.PrintWords Go.Proofs.YtinjajpnbbknnaaW.PrintLast Go.Proofs.YtinjajpnbbknnaaW.PrintMore
set_option linter.unusedVariables false

set_option maxRecDepth 100000 in
theorem own_neg (k : Nat) (A : Option Addr) (c : Nat) (l : List S45) (p d : ByteArray) (r : Int) (g1 g2 : Nat) (w : World) (h1 : w.heap[g1]? = some (.cells #[.slice A l.length c] 22 (0, 0))) (h2 : w.heap[g2]? = some (.cells #[.string p] 9 (0, 0)))
    (hr : Kd.C k45 w A l.length l) (hc : l.length ≤ c) (h : owned_Of.f k l d = some r) (hn : r < 0) :
    Calls Try.prog 40 #[.string d, .pointer (some ⟨g1, 0, none⟩), .pointer (some ⟨g2, 0, none⟩)] w fun e w' => e = .returned (.bool false) ∧ Below w.heap.size w w' := by
  have q1 : w.cell? ⟨g1, 0, none⟩ = some (.slice A l.length c) := (blk_cell h1 0).trans rfl
  have q2 : w.cell? ⟨g2, 0, none⟩ = some (.string p) := (blk_cell h2 0).trans rfl
  have HF := Lib.hid (owned_Of.calls k A c l d r w hr hc h)
  clear h hr h1 h2
  have hnb : decide (0 ≤ r) = false := decide_eq_false (by omega)
  clear hn
  go_enter Try.func40, Try.ntmps40
  go_wp2_with fail
  refine HF.out.mono ?_
  rintro e w1 ⟨rfl, hb1⟩
  have HB1 := Lib.hid hb1
  clear hb1
  go_wp2_with fail
  repeat (go_quiet (fail); try go_wp2)
  go_ret
  exact ⟨by first | rfl | simp, by repeat (first | exact HB1.out | apply pw_below_drewN | apply below_drew1)⟩
set_option maxRecDepth 100000 in
theorem own_pos (k : Nat) (A : Option Addr) (c : Nat) (l : List S45) (p d : ByteArray) (r : Int) (g1 g2 : Nat) (w : World) (h1 : w.heap[g1]? = some (.cells #[.slice A l.length c] 22 (0, 0))) (h2 : w.heap[g2]? = some (.cells #[.string p] 9 (0, 0)))
    (hr : Kd.C k45 w A l.length l) (hc : l.length ≤ c) (h : owned_Of.f k l d = some r) (h0 : 0 ≤ r) (hl : r < l.length) :
    Calls Try.prog 40 #[.string d, .pointer (some ⟨g1, 0, none⟩), .pointer (some ⟨g2, 0, none⟩)] w fun e w' => e = .returned (.bool (((rd_T45 l r).f0.toList == p.toList))) ∧ Below w.heap.size w w' := by
  have q1 : w.cell? ⟨g1, 0, none⟩ = some (.slice A l.length c) := (blk_cell h1 0).trans rfl
  have q2 : w.cell? ⟨g2, 0, none⟩ = some (.string p) := (blk_cell h2 0).trans rfl
  have HF := Lib.hid (owned_Of.calls k A c l d r w hr hc h)
  obtain ⟨ad, ea, hx0, hx1, hx2⟩ := at_T45 hr r h0 hl
  have B1 := Lib.hid (World.block_lt_of_cell? w _ q1)
  have B2 := Lib.hid (World.block_lt_of_cell? w _ q2)
  have B3 := Lib.hid (World.block_lt_of_cell? w _ hx0)
  clear h hr h1 h2
  have hnb : decide (0 ≤ r) = true := decide_eq_true h0
  cases ea
  go_enter Try.func40, Try.ntmps40
  go_wp2_with fail
  refine HF.out.mono ?_
  rintro e w1 ⟨rfl, hb1⟩
  have HB1 := Lib.hid hb1
  replace q1 := (hb1.cell B1.out).trans q1
  replace q2 := (hb1.cell B2.out).trans q2
  replace hx0 := (hb1.cell B3.out).trans hx0
  clear hb1
  go_wp2_with fail
  go_region_held3 (fun w' => w'.cell? ⟨g1, 0, none⟩ = some (.slice (some ad) l.length c) ∧ w'.cell? ⟨g2, 0, none⟩ = some (.string p) ∧ w'.cell? (ad.add (r.toNat * 3)) = some (.string (rd_T45 l r).f0) ∧ Below w.heap.size w w')
    (first | exact ⟨by go_keep, by go_keep, by go_keep, below_drew1 HB1.out⟩ | (go_split_ands; exact ⟨cell_keep hb (by assumption), cell_keep hb (by assumption), cell_keep hb (by assumption), below_step (by assumption) hb⟩))
    (fail)
  go_split_ands
  go_wp2_with fail
  go_ret
  exact ⟨by first | rfl | (congr 1; done) | simp, by assumption⟩
/-- does the range that holds a folder lie at p -/
def mineB (k : Nat) (l : List S45) (p d : ByteArray) : Bool := match owned_Of.f k l d with | some r => decide (0 ≤ r) && ((rd_T45 l r).f0.toList == p.toList) | none => false
theorem own_is (k : Nat) (A : Option Addr) (c : Nat) (l : List S45) (p d : ByteArray) (g1 g2 : Nat) (w : World) (h1 : w.heap[g1]? = some (.cells #[.slice A l.length c] 22 (0, 0))) (h2 : w.heap[g2]? = some (.cells #[.string p] 9 (0, 0)))
    (hr : Kd.C k45 w A l.length l) (hc : l.length ≤ c) (h : ∃ r : Int, owned_Of.f k l d = some r ∧ r < l.length) :
    Calls Try.prog 40 #[.string d, .pointer (some ⟨g1, 0, none⟩), .pointer (some ⟨g2, 0, none⟩)] w fun e w' => e = .returned (.bool (mineB k l p d)) ∧ Below w.heap.size w w' := by
  obtain ⟨r, h, hl⟩ := h
  unfold mineB
  rw [h]
  by_cases h0 : 0 ≤ r
  · have e : (decide (0 ≤ r) && ((rd_T45 l r).f0.toList == p.toList)) = ((rd_T45 l r).f0.toList == p.toList) := by rw [decide_eq_true h0, Bool.true_and]
    show Calls _ _ _ _ fun e w' => e = .returned (.bool (decide (0 ≤ r) && ((rd_T45 l r).f0.toList == p.toList))) ∧ _
    rw [e]
    exact own_pos k A c l p d r g1 g2 w h1 h2 hr hc h h0 hl
  · have e : (decide (0 ≤ r) && ((rd_T45 l r).f0.toList == p.toList)) = false := by rw [decide_eq_false h0, Bool.false_and]
    show Calls _ _ _ _ fun e w' => e = .returned (.bool (decide (0 ≤ r) && ((rd_T45 l r).f0.toList == p.toList))) ∧ _
    rw [e]
    exact own_neg k A c l p d r g1 g2 w h1 h2 hr hc h (by omega)
set_option maxRecDepth 100000 in
theorem turn_pred (k : Nat) (A : Option Addr) (c : Nat) (l : List S45) (p : ByteArray) (g1 g2 g3 : Nat) (tf : _) (ts : List S59) (w : World) (h1 : w.heap[g1]? = some (.cells #[.slice A l.length c] 22 (0, 0))) (h2 : w.heap[g2]? = some (.cells #[.string p] 9 (0, 0)))
    (h3 : w.heap[g3]? = some (.cells #[.func (.func 40) #[] #[.pointer (some ⟨g1, 0, none⟩), .pointer (some ⟨g2, 0, none⟩)]] tf (0, 0))) (hr : Kd.C k45 w A l.length l) (hc : l.length ≤ c) (h : ∀ d, ∃ r : Int, owned_Of.f k l d = some r ∧ r < l.length) :
    ITurn.PredB 45 #[.pointer (some ⟨g3, 0, none⟩)] (fun x => mineB k l p x.f0) ts w := fun W x hx hW => by
  have HG1 := (hW.block g1 (blk_lt h1)).trans h1
  have HG2 := (hW.block g2 (blk_lt h2)).trans h2
  have HG3 := (hW.block g3 (blk_lt h3)).trans h3
  have hq3 : W.cell? ⟨g3, 0, none⟩ = some _ := (blk_cell HG3 0).trans rfl
  have B3 := World.block_lt_of_cell? W _ hq3
  have HC := Lib.hid (fun (V : World) (hV : Below W.heap.size W V) => own_is k A c l p x.f0 g1 g2 V ((hV.block g1 (blk_lt HG1)).trans HG1) ((hV.block g2 (blk_lt HG2)).trans HG2) (Kd.C_below (Kd.C_below hr hW) hV) hc (h x.f0))
  obtain ⟨b, hb⟩ : ∃ b, mineB k l p x.f0 = b := ⟨_, rfl⟩
  simp only [hb] at HC ⊢
  have cg : (W.alloc (.cells #[.string x.f0, .int .i64 x.f1] 59 (0, 0))).cell? ⟨g3, 0, none⟩ = _ := (World.cell?_alloc_past _ g3 0 B3).trans hq3
  clear hb h hr h1 h2 h3 hx hW HG1 HG2 HG3
  go_enter Try.func45, Try.ntmps45
  go_wp2_with fail
  refine (HC.out _ (below_alloc (Below.refl _ _) _)).mono ?_
  rintro e w1 ⟨rfl, hb1⟩
  have HB1 := Lib.hid (below_step (below_alloc (Below.refl _ _) _) hb1)
  clear hb1
  go_wp2_with fail
  go_ret
  exact ⟨by first | rfl | simp, HB1.out⟩
/-- the folder of a node's path -/
def homeK (k : Nat) (q : ByteArray) : ByteArray := match path_Parent.f k q with | some (a, true) => a | _ => ⟨#[47]⟩
set_option maxRecDepth 100000 in
theorem node_pred (k : Nat) (A : Option Addr) (c : Nat) (l : List S45) (p : ByteArray) (g1 g2 g3 : Nat) (tf : _) (ts : List S40) (w : World) (h1 : w.heap[g1]? = some (.cells #[.slice A l.length c] 22 (0, 0))) (h2 : w.heap[g2]? = some (.cells #[.string p] 9 (0, 0)))
    (h3 : w.heap[g3]? = some (.cells #[.func (.func 40) #[] #[.pointer (some ⟨g1, 0, none⟩), .pointer (some ⟨g2, 0, none⟩)]] tf (0, 0))) (hr : Kd.C k45 w A l.length l) (hc : l.length ≤ c) (h : ∀ d, ∃ r : Int, owned_Of.f k l d = some r ∧ r < l.length) (hp : ∀ x ∈ ts, (path_Parent.f k x.f0).isSome = true) :
    INode.PredB 42 #[.pointer (some ⟨g3, 0, none⟩)] (fun x => mineB k l p (homeK k x.f0)) ts w := fun W x hx hW => by
  have HG1 := (hW.block g1 (blk_lt h1)).trans h1
  have HG2 := (hW.block g2 (blk_lt h2)).trans h2
  have HG3 := (hW.block g3 (blk_lt h3)).trans h3
  have hq3 : W.cell? ⟨g3, 0, none⟩ = some _ := (blk_cell HG3 0).trans rfl
  have B3 := World.block_lt_of_cell? W _ hq3
  have HC := Lib.hid (fun (V : World) (hV : Below W.heap.size W V) => own_is k A c l p (homeK k x.f0) g1 g2 V ((hV.block g1 (blk_lt HG1)).trans HG1) ((hV.block g2 (blk_lt HG2)).trans HG2) (Kd.C_below (Kd.C_below hr hW) hV) hc (h _))
  obtain ⟨b, hb⟩ : ∃ b, mineB k l p (homeK k x.f0) = b := ⟨_, rfl⟩
  simp only [hb] at HC ⊢
  obtain ⟨⟨a, is⟩, ha⟩ := Option.isSome_iff_exists.1 (hp x hx)
  have HP := Lib.hid (fun V => path_Parent.calls k x.f0 a is V ha)
  have hh : homeK k x.f0 = if is = true then a else ⟨#[47]⟩ := by unfold homeK; rw [ha]; cases is <;> rfl
  have cg : (W.alloc (.cells #[.string x.f0, .string x.f1, .int .i64 x.f2, .int .i64 x.f3, .int .i64 x.f4] 40 (0, 0))).cell? ⟨g3, 0, none⟩ = _ := (World.cell?_alloc_past _ g3 0 B3).trans hq3
  have B4 := Lib.hid (World.block_lt_of_cell? _ _ cg)
  rw [hh] at HC
  clear hb h hr h1 h2 h3 hx hW HG1 HG2 HG3 ha hp hh
  cases is
  all_goals
    go_enter Try.func42, Try.ntmps42
    go_wp2_with fail
    refine (HP.out _).mono ?_
    rintro e w0 ⟨rfl, hb0⟩
    have HB0 := Lib.hid (below_step (below_alloc (Below.refl _ _) _) hb0)
    replace cg := (hb0.cell B4.out).trans cg
    clear hb0
    go_wp2_with fail
    refine (HC.out _ HB0.out).mono ?_
    rintro e w1 ⟨rfl, hb1⟩
    have HB1 := Lib.hid (below_step HB0.out hb1)
    clear hb1
    go_wp2_with fail
    go_ret
    exact ⟨by first | rfl | simp, HB1.out⟩
end Go.Proofs.Ytinjajpnbbknnaa.Cut
