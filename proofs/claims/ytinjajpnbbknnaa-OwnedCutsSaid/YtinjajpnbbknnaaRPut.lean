/- The walk of owned.put: a range in its place; and owned.find's contract in the printed form. -/
import Derived.Test.YtinjajpnbbknnaaFRange
import Derived.Test.YtinjajpnbbknnaaCRange
import Derived.Test.YtinjajpnbbknnaaORange
import Derived.WalkLawsBesides
import Derived.Lib.Hide
namespace Go.Proofs.Ytinjajpnbbknnaa.RPut
open Go Go.RowKit Go.Shelf Go.Proofs Go.Proofs.Ytinjajpnbbknnaa.Q Go.Proofs.Ytinjajpnbbknnaa.ORange Go.Proofs.YtinjajpnbbknnaaW.PrintWords Go.Proofs.YtinjajpnbbknnaaW.PrintLast Go.Proofs.YtinjajpnbbknnaaW.PrintMore
open Go.Proofs.Ytinjajpnbbknnaa.FRange (at_ own_ find_calls at_le)
set_option linter.unusedVariables false

def owned_find.f (l0 : List S45) (a1 : ByteArray) : Option (Int × Bool) := if l0.length ≤ 1000000000 then some ((at_ a1 l0 : Nat), own_ a1 l0) else none
theorem owned_find.calls (A0 : Option Addr) (c0 : Nat) (l0 : List S45) (a1 : ByteArray) (r1 : Int) (r2 : Bool) (w : World) (hr0 : Kd.C k45 w A0 l0.length l0) (hc0 : l0.length ≤ c0) (h : owned_find.f l0 a1 = some (r1, r2)) :
    Calls Try.prog 36 #[.slice A0 l0.length c0, .string a1] w fun e w' => e = .returned (.tuple #[.int .i64 r1, .bool r2]) ∧ Below w.heap.size w w' := by
  unfold owned_find.f at h
  split at h
  · next hl =>
    cases h
    exact find_calls A0 c0 l0 a1 w hr0 (by omega)
  · cases h
def PostP (w : World) (r1 : List S45) (r2 : Bool) (e : Ending) (w' : World) : Prop := ∃ v : Value, e = .returned (.tuple #[v, .bool r2]) ∧ Kd.R k45 45 w' w.heap.size (fun _ => True) v r1 ∧ Below w.heap.size w w'
theorem cell_keep {W w' : World} (hb : Below W.heap.size W w') {p : Addr} {v : Value} (h : W.cell? p = some v) : w'.cell? p = some v := (hb.cell (World.block_lt_of_cell? W _ h)).trans h
theorem cells3 {w : World} {g t : Nat} {v0 v1 v2 : Value} (h : w.heap[g]? = some (.cells #[v0, v1, v2] t (0, 0))) : w.cell? ⟨g, 0, none⟩ = some v0 ∧ w.cell? ⟨g, 1, none⟩ = some v1 ∧ w.cell? ⟨g, 2, none⟩ = some v2 :=
  ⟨(blk_cell h 0).trans rfl, (blk_cell h 1).trans rfl, (blk_cell h 2).trans rfl⟩
section
variable (A : Option Addr) (c : Nat) (l : List S45) (x0 : ByteArray) (x1 x2 : Int) (w : World) (hr : Kd.C k45 w A l.length l) (hc : l.length ≤ c) (hl : l.length ≤ 1000)
set_option maxHeartbeats 4000000 in
set_option maxRecDepth 100000 in
theorem put_full (hr : Kd.C k45 w A l.length l) (hl : l.length ≤ 1000) (ho : own_ x0 l = false) (h32 : l.length = 32) :
    Calls Try.prog 32 #[.slice A l.length c, .agg #[.string x0, .int .i64 x1, .int .i64 x2]] w (PostP w [] false) := by
  have HF := Lib.hid (fun W (hW : Below w.heap.size w W) => find_calls A c l x0 W (Kd.C_below hr hW) (by omega))
  rw [ho] at HF
  rw [h32] at HF ⊢
  obtain ⟨i, hi⟩ : ∃ i, at_ x0 l = i := ⟨_, rfl⟩
  rw [hi] at HF
  clear hi hr hl ho h32
  go_enter Try.func32, Try.ntmps32
  go_wp2_with fail
  refine (HF.out _ (below_alloc (Below.refl _ _) _)).mono ?_
  rintro e w1 ⟨rfl, hb1⟩
  have HB1 := Lib.hid (below_step (below_alloc (Below.refl _ _) _) hb1)
  clear hb1
  go_wp2_with fail
  go_ret2
  exact ⟨_, rfl, Kd.R_nil _ _ _ _ _, HB1.out⟩
set_option maxHeartbeats 4000000 in
set_option maxRecDepth 100000 in
theorem put_own (hr : Kd.C k45 w A l.length l) (hl : l.length ≤ 1000) (ho : own_ x0 l = true) :
    Calls Try.prog 32 #[.slice A l.length c, .agg #[.string x0, .int .i64 x1, .int .i64 x2]] w (PostP w (l.set (at_ x0 l) ⟨x0, x1, x2⟩) true) := by
  have HF := Lib.hid (fun W (hW : Below w.heap.size w W) => find_calls A c l x0 W (Kd.C_below hr hW) (by omega))
  have HCL := Lib.hid (fun W (hW : Below w.heap.size w W) => CRange.clone_calls A c l W (Kd.C_below hr hW) (by omega))
  have hlt : at_ x0 l < l.length := by
    unfold FRange.own_ BRange.bsB at ho
    simp only [Bool.and_eq_true, decide_eq_true_eq] at ho
    exact ho.1
  rw [ho] at HF
  obtain ⟨i, hi⟩ : ∃ i, at_ x0 l = i := ⟨_, rfl⟩
  rw [hi] at HF hlt ⊢
  obtain ⟨n, hn⟩ : ∃ n, l.length = n := ⟨_, rfl⟩
  have HN := Lib.hid hn
  rw [hn] at HF HCL hl hlt ⊢
  clear hi hr ho hn
  have hiz : (i : Int) < (n : Int) := by omega
  go_enter Try.func32, Try.ntmps32
  go_wp2_with fail
  refine (HF.out _ (below_alloc (Below.refl _ _) _)).mono ?_
  rintro e w1 ⟨rfl, hb1⟩
  have HK1 := Lib.hid (show w1.heap[w.heap.size]? = some (.cells #[.string x0, .int .i64 x1, .int .i64 x2] 45 (0, 0)) from stepH (heap_alloc_new w _) hb1)
  have HB1 := Lib.hid (below_step (below_alloc (Below.refl _ _) _) hb1)
  clear hb1
  go_wp2_with fail
  refine (HCL.out _ HB1.out).mono ?_
  rintro e w2 ⟨v, rfl, hR2, hb2⟩
  have HK2 := Lib.hid (show w2.heap[w.heap.size]? = some (.cells #[.string x0, .int .i64 x1, .int .i64 x2] 45 (0, 0)) from stepH HK1.out hb2)
  have HB2 := Lib.hid (below_step HB1.out hb2)
  have hs1 : w.heap.size + 1 ≤ w1.heap.size := blk_lt HK1.out
  have HO := Lib.hid hR2
  clear hb2 hR2
  have hnp : 0 < l.length := by have := HN.out; omega
  obtain ⟨g, cap, cur, rfl, hg, hnc, hcap, hh⟩ := R_form HO.out hnp
  obtain ⟨ad3, ea3, hc0, hc1, hc2⟩ := at_T45 (Kd.R_reads' HO.out).2.2 (i : Nat) (by omega) (by have := HN.out; omega)
  cases ea3
  simp only [Int.toNat_natCast, Addr.add_lit, Nat.zero_add] at hc0 hc1 hc2
  have r0 := blk_frozen hh (i * 3)
  have r1 := blk_frozen hh (i * 3 + 1)
  have r2 := blk_frozen hh (i * 3 + 2)
  have hgN : g ≠ w.heap.size := by omega
  obtain ⟨q0, q1, q2⟩ := cells3 HK2.out
  clear hh
  rw [HN.out] at hnc ⊢
  go_wp2_with fail
  go_ret2
  have hil : i < l.length := by have := HN.out; omega
  have H8 := store_R ⟨x0, x1, x2⟩ HO.out hil
  have hgB : w.heap.size ≤ g := by have := HB1.out.size; omega
  have H9 := Kd.R_lower H8 (show w.heap.size ≤ w1.heap.size by omega)
  rw [HN.out] at H9
  have b1 := Below.setCell (p := ⟨g, i * 3, none⟩) HB2.out hgB (.string x0)
  have b2 := Below.setCell (p := ⟨g, i * 3 + 1, none⟩) b1 hgB (.int .i64 x1)
  have b3 := Below.setCell (p := ⟨g, i * 3 + 2, none⟩) b2 hgB (.int .i64 x2)
  exact ⟨_, rfl, H9, b3⟩
set_option maxHeartbeats 4000000 in
set_option maxRecDepth 100000 in
theorem put_ins (hr : Kd.C k45 w A l.length l) (hl : l.length ≤ 1000) (ho : own_ x0 l = false) (h32 : ((l.length : Int) == 32) = false) :
    Calls Try.prog 32 #[.slice A l.length c, .agg #[.string x0, .int .i64 x1, .int .i64 x2]] w (PostP w (l.take (at_ x0 l) ++ ⟨x0, x1, x2⟩ :: l.drop (at_ x0 l)) true) := by
  have HF := Lib.hid (fun W (hW : Below w.heap.size w W) => find_calls A c l x0 W (Kd.C_below hr hW) (by omega))
  have HCL := Lib.hid (fun W (hW : Below w.heap.size w W) => CRange.clone_calls A c l W (Kd.C_below hr hW) (by omega))
  have hle := at_le x0 l
  rw [ho] at HF
  obtain ⟨i, hi⟩ : ∃ i, at_ x0 l = i := ⟨_, rfl⟩
  rw [hi] at HF hle ⊢
  obtain ⟨n, hn⟩ : ∃ n, l.length = n := ⟨_, rfl⟩
  have HN := Lib.hid hn
  rw [hn] at HF HCL hl hle h32 ⊢
  clear hi hr ho hn
  go_enter Try.func32, Try.ntmps32
  go_wp2_with fail
  refine (HF.out _ (below_alloc (Below.refl _ _) _)).mono ?_
  rintro e w1 ⟨rfl, hb1⟩
  have HK1 := Lib.hid (show w1.heap[w.heap.size]? = some (.cells #[.string x0, .int .i64 x1, .int .i64 x2] 45 (0, 0)) from stepH (heap_alloc_new w _) hb1)
  have HB1 := Lib.hid (below_step (below_alloc (Below.refl _ _) _) hb1)
  clear hb1
  go_wp2_with fail
  refine (HCL.out _ HB1.out).mono ?_
  rintro e w2 ⟨v, rfl, hR2, hb2⟩
  have HK2 := Lib.hid (show w2.heap[w.heap.size]? = some (.cells #[.string x0, .int .i64 x1, .int .i64 x2] 45 (0, 0)) from stepH HK1.out hb2)
  have HB2 := Lib.hid (below_step HB1.out hb2)
  have hs1 : w.heap.size + 1 ≤ w1.heap.size := blk_lt HK1.out
  have hs2 := hb2.size
  have HO := Lib.hid hR2
  clear hb2 hR2
  obtain ⟨q0, q1, q2⟩ := cells3 HK2.out
  go_wp2_with fail
  have hl9 : w2.heap.size ≤ (w2.alloc (.cells (enc ⟨x0, x1, x2⟩).toArray 45)).heap.size := by show _ ≤ (w2.heap.push _).size; simp
  have hnew : (w2.alloc (.cells (enc ⟨x0, x1, x2⟩).toArray 45)).heap[w2.heap.size]? = some (.cells (enc ⟨x0, x1, x2⟩).toArray 45 (0, 0)) := heap_alloc_new w2 _
  have hne9 : some w2.heap.size ≠ v.ownBlock := fun e => by
    obtain ⟨inner, hown⟩ := Kd.R_own HO.out
    have := own_lt hown _ e.symm
    omega
  have hbs : w1.heap.size ≤ w2.heap.size := hs2
  refine (insert_R w1.heap.size v l ⟨x0, x1, x2⟩ i w2.heap.size 1 _ (Kd.R_alloc HO.out _) (Nat.le_trans hbs hl9) (by have := HN.out; omega) (by have := HN.out; omega) hnew hne9).mono ?_
  rintro e w3 ⟨v3, rfl, ho3, hb3⟩
  have HB3 := Lib.hid ((below_alloc HB2.out _).trans (hb3.mono (by have := HB1.out.size; omega)))
  have HK3 := Lib.hid (show w3.heap[w.heap.size]? = some (.cells #[.string x0, .int .i64 x1, .int .i64 x2] 45 (0, 0)) from (hb3.block _ (by omega)).trans (blk_alloc HK2.out _))
  have HO3 := Lib.hid ho3
  clear ho3 hb3 hnew hne9 hl9 q0 q1 q2
  have hn10 : (l.take i ++ [(⟨x0, x1, x2⟩ : S45)] ++ l.drop i).length = n + 1 := by have := HN.out; simp; omega
  obtain ⟨g, cap, cur, rfl, hg, hnc, hcap, hh⟩ := R_form HO3.out (by omega)
  obtain ⟨ad3, ea3, hc0, hc1, hc2⟩ := at_T45 (Kd.R_reads' HO3.out).2.2 (i : Nat) (by omega) (by omega)
  cases ea3
  simp only [Int.toNat_natCast, Addr.add_lit, Nat.zero_add] at hc0 hc1 hc2
  have r0 := blk_frozen hh (i * 3)
  have r1 := blk_frozen hh (i * 3 + 1)
  have r2 := blk_frozen hh (i * 3 + 2)
  have hgN : g ≠ w.heap.size := by omega
  have hil : i < (l.take i ++ [(⟨x0, x1, x2⟩ : S45)] ++ l.drop i).length := by omega
  have hiz : (i : Int) < ((n + 1 : Nat) : Int) := by omega
  obtain ⟨q0, q1, q2⟩ := cells3 HK3.out
  clear hh
  rw [hn10] at hnc ⊢
  obtain ⟨m, hm⟩ : ∃ m, n + 1 = m := ⟨_, rfl⟩
  rw [hm] at hiz hnc hn10 ⊢
  go_wp2_with fail
  go_ret2
  have H8 := store_R ⟨x0, x1, x2⟩ HO3.out hil
  rw [ins_set l i _ (by have := HN.out; omega)] at H8
  have hgB : w.heap.size ≤ g := by omega
  have H9 := Kd.R_lower H8 (show w.heap.size ≤ w1.heap.size by omega)
  rw [hn10] at H9
  have b1 := Below.setCell (p := ⟨g, i * 3, none⟩) HB3.out hgB (.string x0)
  have b2 := Below.setCell (p := ⟨g, i * 3 + 1, none⟩) b1 hgB (.int .i64 x1)
  have b3 := Below.setCell (p := ⟨g, i * 3 + 2, none⟩) b2 hgB (.int .i64 x2)
  exact ⟨_, rfl, H9, b3⟩
end
def owned_put.f (l0 : List S45) (a1_0 : ByteArray) (a1_1 a1_2 : Int) : Option (List S45 × Bool) :=
  if l0.length ≤ 1000 then (if own_ a1_0 l0 = true then some (l0.set (at_ a1_0 l0) ⟨a1_0, a1_1, a1_2⟩, true) else if l0.length = 32 then some ([], false) else some (l0.take (at_ a1_0 l0) ++ ⟨a1_0, a1_1, a1_2⟩ :: l0.drop (at_ a1_0 l0), true)) else none
theorem owned_put.calls (A0 : Option Addr) (c0 : Nat) (l0 : List S45) (a1_0 : ByteArray) (a1_1 : Int) (a1_2 : Int) (r1 : List S45) (r2 : Bool) (w : World) (hr0 : Kd.C k45 w A0 l0.length l0) (hc0 : l0.length ≤ c0) (h : owned_put.f l0 a1_0 a1_1 a1_2 = some (r1, r2)) :
    Calls Try.prog 32 #[.slice A0 l0.length c0, .agg #[.string a1_0, .int .i64 a1_1, .int .i64 a1_2]] w fun e w' => ∃ v0_ : Value, e = .returned (.tuple #[v0_, .bool r2]) ∧ Kd.R k45 45 w' w.heap.size (fun _ => True) v0_ r1 ∧ Below w.heap.size w w' := by
  show Calls Try.prog 32 _ w (PostP w r1 r2)
  unfold owned_put.f at h
  by_cases hl : l0.length ≤ 1000
  · rw [if_pos hl] at h
    by_cases ho : own_ a1_0 l0 = true
    · rw [if_pos ho] at h
      cases h
      exact put_own A0 c0 l0 a1_0 a1_1 a1_2 w hr0 hl ho
    · rw [if_neg ho] at h
      have ho' : own_ a1_0 l0 = false := by simpa using ho
      by_cases h32 : l0.length = 32
      · rw [if_pos h32] at h
        cases h
        exact put_full A0 c0 l0 a1_0 a1_1 a1_2 w hr0 hl ho' h32
      · rw [if_neg h32] at h
        cases h
        exact put_ins A0 c0 l0 a1_0 a1_1 a1_2 w hr0 hl ho' (beq_eq_false_iff_ne.2 (by omega))
  · rw [if_neg hl] at h; cases h
end Go.Proofs.Ytinjajpnbbknnaa.RPut
-- GIVEN 36 RPut owned_find ps=sl45:st:45;str rs=i64;bool rounds=0 making=1
-- GIVEN 32 RPut owned_put ps=sl45:st:45;st:45 rs=sl45:st:45;bool rounds=0 making=1
