/- The walk of slices.DeleteFunc at rows of api.Hold of the call's own, for any predicate that lays no more than new memory. -/
import Derived.Test.YtclomgbiomojjaaIStr
import Derived.Shelf.Abstract
import Derived.WalkLawsBesides
import Derived.Lib.Hide
import Derived.Test.YtclomgbiomojjaaOHold
import Derived.Lib.SliceRun
import Derived.Deep.LoopGhost
/- The walk of locks.Held. -/
namespace Go.Proofs.Ytclomgbiomojjaa.LHeld
open Go Go.RowKit Go.Shelf Go.Proofs Go.Proofs.Ytclomgbiomojjaa.Q Go.Proofs.Ytclomgbiomojjaa.IHold Go.Proofs.YtclomgbiomojjaaW.PrintWords Go.Proofs.YtclomgbiomojjaaW.PrintLast Go.Proofs.YtclomgbiomojjaaW.PrintMore
set_option linter.unusedVariables false

theorem is_dir (d : ByteArray) (b : Nat) (W : World) (x : S34) (hb : W.cell? ⟨b, 0, none⟩ = some (.string d)) : Calls Try.prog 35 (#[.agg #[.string x.f0, .int .i64 x.f1, .int .i64 x.f2]] ++ #[.pointer (some ⟨b, 0, none⟩)]) W fun e w' => e = .returned (.bool (x.f0.toList == d.toList)) ∧ Below W.heap.size W w' := by
  have hlt := World.block_lt_of_cell? W _ hb
  go_enter Try.func35, Try.ntmps35
  have hb2 := ((below_alloc (Below.refl W.heap.size W) (.cells #[.string x.f0, .int .i64 x.f1, .int .i64 x.f2] 34)).cell hlt).trans hb
  go_wp2_with fail
  go_ret
  exact ⟨rfl, below_alloc (Below.refl _ _) _⟩
def heldI (l : List S34) (d : ByteArray) : Int := idxI (fun x => x.f0.toList == d.toList) l
def heldT (l : List S34) (d : ByteArray) : Int := match l.find? (fun x => x.f0.toList == d.toList) with | some x => x.f1 | none => 0
def heldB (l : List S34) (d : ByteArray) : Bool := l.any (fun x => x.f0.toList == d.toList)
theorem any_is (l : List S34) (d : ByteArray) : heldB l d = false → heldI l d = -1 ∧ heldT l d = 0 := fun h => by
  unfold heldB at h
  refine ⟨?_, ?_⟩
  · unfold heldI idxI; rw [h]; rfl
  · unfold heldT
    rw [List.find?_eq_none.2 (fun x hx => by have := List.any_eq_false.1 h x hx; simpa using this)]
theorem some_is (l : List S34) (d : ByteArray) : heldB l d = true → ∃ i : Nat, i < l.length ∧ heldI l d = i ∧ heldT l d = (rd_T34 l (i : Int)).f1 := fun h => by
  unfold heldB at h
  have hlt := List.findIdx_lt_length_of_exists (List.any_eq_true.1 h)
  refine ⟨l.findIdx (fun x => x.f0.toList == d.toList), hlt, ?_, ?_⟩
  · unfold heldI idxI; rw [if_pos h]
  · unfold heldT
    rw [rd_is l _ hlt, List.find?_eq_getElem?_findIdx, List.getElem?_eq_getElem hlt]
set_option maxHeartbeats 4000000 in
set_option maxRecDepth 100000 in
theorem held_calls (A : Option Addr) (c : Nat) (l : List S34) (d : ByteArray) (w : World) (hr : Kd.C k34 w A l.length l) (hl : l.length ≤ 4611686018427387904) :
    Calls Try.prog 13 #[.slice A l.length c, .string d] w fun e w' => e = .returned (.tuple #[.int .i64 (heldT l d), .bool (heldB l d)]) ∧ Below w.heap.size w w' := by
  have HI := Lib.hid (fun (W : World) (hW : Below w.heap.size w W) (hb : W.cell? ⟨w.heap.size, 0, none⟩ = some (.string d)) =>
    index_calls 35 #[.pointer (some ⟨w.heap.size, 0, none⟩)] (enters_of Try.func35 (by kernel_rfl) rfl) (fun x => x.f0.toList == d.toList) A c l W
      (fun W2 x _ hW2 => is_dir d w.heap.size W2 x ((hW2.cell (World.block_lt_of_cell? W _ hb)).trans hb)) (Kd.C_below hr hW) hl)
  have HR := Lib.hid hr
  obtain ⟨n, hn⟩ : ∃ n, l.length = n := ⟨_, rfl⟩
  have HN := Lib.hid hn
  rw [hn] at HI hl ⊢
  have hc0 : (w.alloc (.cells #[.string d] 9 (0, 0))).cell? ⟨w.heap.size, 0, none⟩ = some (.string d) := blk_cell (heap_alloc_new w _) 0
  clear hr hn
  cases hb : heldB l d with
  | false =>
    obtain ⟨e1, e2⟩ := any_is l d hb
    unfold heldI at e1
    rw [e1] at HI
    rw [e2]
    clear hb e1 e2
    go_enter Try.func13, Try.ntmps13
    go_wp2_with fail
    refine (HI.out _ (below_alloc (Below.refl _ _) _) hc0).mono ?_
    rintro e w1 ⟨rfl, hb1⟩
    have HB1 := Lib.hid (below_step (below_alloc (Below.refl _ _) _) hb1)
    clear hb1 hc0
    go_wp2_with fail
    go_ret2
    exact ⟨rfl, HB1.out⟩
  | true =>
    obtain ⟨i, hi, e1, e2⟩ := some_is l d hb
    unfold heldI at e1
    rw [e1] at HI
    rw [e2]
    clear hb e1 e2
    obtain ⟨ad, ea, hx0, hx1, hx2⟩ := at_T34 HR.out (i : Int) (by omega) (by have := HN.out; omega)
    simp only [Int.toNat_natCast] at hx0 hx1 hx2
    cases ea
    have hiz : (i : Int) < (n : Int) := by have := HN.out; omega
    go_enter Try.func13, Try.ntmps13
    go_wp2_with fail
    refine (HI.out _ (below_alloc (Below.refl _ _) _) hc0).mono ?_
    rintro e w1 ⟨rfl, hb1⟩
    have HB1 := Lib.hid (below_step (below_alloc (Below.refl _ _) _) hb1)
    clear hb1 hc0
    have hx1' := (HB1.out.cell (World.block_lt_of_cell? w _ hx1)).trans hx1
    go_wp2_with fail
    go_ret2
    exact ⟨rfl, HB1.out⟩
def locks_Held.f (l0 : List (S34)) (a1 : ByteArray) : Option (Int × Bool) := if l0.length ≤ 1000000 then some (heldT l0 a1, heldB l0 a1) else none
theorem locks_Held.calls (A0 : Option Addr) (c0 : Nat) (l0 : List (S34)) (a1 : ByteArray) (r1 : Int) (r2 : Bool) (w : World) (hr0 : Kd.C k34 w A0 l0.length l0) (hc0 : l0.length ≤ c0) (h : locks_Held.f l0 a1 = some (r1, r2)) :
    Calls Try.prog 13 #[.slice A0 l0.length c0, .string a1] w fun e w' => e = .returned (.tuple #[.int .i64 r1, .bool r2]) ∧ Below w.heap.size w w' := by
  unfold locks_Held.f at h
  split at h
  · next hl =>
    cases h
    exact held_calls A0 c0 l0 a1 w hr0 (by omega)
  · cases h
end Go.Proofs.Ytclomgbiomojjaa.LHeld
-- GIVEN 13 LHeld locks_Held ps=sl34:st:34;str rs=i64;bool rounds=0 making=1
namespace Go.Proofs.Ytclomgbiomojjaa.LDel
open Go Go.RowKit Go.Shelf Go.Proofs Go.Proofs.Ytclomgbiomojjaa.Q Go.Proofs.Ytclomgbiomojjaa.IHold Go.Proofs.Ytclomgbiomojjaa.OHold Go.Proofs.YtclomgbiomojjaaW.PrintWords Go.Proofs.YtclomgbiomojjaaW.PrintLast Go.Proofs.YtclomgbiomojjaaW.PrintMore
set_option linter.unusedVariables false

abbrev zH : Value := .agg #[.string ⟨#[]⟩, .int .i64 0, .int .i64 0]
def zs : Nat → List Value
  | 0 => []
  | n + 1 => .string ⟨#[]⟩ :: .int .i64 0 :: .int .i64 0 :: zs n
theorem zs_len (n : Nat) : (zs n).length = n * 3 := by
  induction n with
  | zero => rfl
  | succ n ih => unfold zs; simp only [List.length_cons, ih]; omega
theorem zs_one (n : Nat) : ∀ v ∈ zs n, v.oneCell' = true := by
  induction n with
  | zero => intro v h; cases h
  | succ n ih =>
    intro v h
    unfold zs at h
    rcases List.mem_cons.1 h with rfl | h
    · rfl
    rcases List.mem_cons.1 h with rfl | h
    · rfl
    rcases List.mem_cons.1 h with rfl | h
    · rfl
    exact ih v h
theorem zs_get : ∀ (n j : Nat), j < n * 3 → (zs n)[j]? = #[Value.string ⟨#[]⟩, .int .i64 0, .int .i64 0][j % 3]?
  | 0, j, h => by omega
  | n + 1, 0, _ => rfl
  | n + 1, 1, _ => rfl
  | n + 1, 2, _ => rfl
  | n + 1, j + 3, h => by
    have := zs_get n j (by omega)
    rw [show (j + 3) % 3 = j % 3 by omega, ← this]
    rfl
theorem zeros_is (n : Nat) : (Builtin.zeroCells (Value.cells zH) n).toList = zs n := by
  apply List.ext_getElem?
  intro j
  rcases Nat.lt_or_ge j (n * 3) with h | h
  · rw [zs_get n j h]
    have h2 : j % 3 < 3 := Nat.mod_lt _ (by omega)
    have hz : Value.cells zH = #[Value.string ⟨#[]⟩, .int .i64 0, .int .i64 0] := rfl
    have hs : (Builtin.zeroCells (Value.cells zH) n).size = n * 3 := by simp [Builtin.zeroCells, hz]
    rw [Array.getElem?_toList, Array.getElem?_eq_getElem (by rw [hs]; exact h)]
    simp only [Builtin.zeroCells, hz]
    simp
    rw [List.getElem?_eq_getElem (by simpa using h2)]
    rfl
  · rw [List.getElem?_eq_none (l := zs n) (by rw [zs_len]; omega), List.getElem?_eq_none]
    have hz : Value.cells zH = #[Value.string ⟨#[]⟩, .int .i64 0, .int .i64 0] := rfl
    rw [Array.length_toList]
    simp [Builtin.zeroCells, hz]
    omega
theorem run_clear3 (w : World) (ty : TypeId) (g o n c : Nat) (hn : 0 < n) (hc : ∀ j, j < n * 3 → (w.cell? ⟨g, o + j, none⟩).isSome = true) (hf : ∀ j, j < n * 3 → w.frozen? ⟨g, o + j, none⟩ = false) :
    (Builtin.clear_ #[22] ty #[.slice (some ⟨g, o, none⟩) n c]).run Try.prog w = .ok (.tuple #[]) (w.setCells g o (zs n)) := by
  have hst := run_storeCells_cells (P := Try.prog) g o (zs n) 0 w (by rw [zs_len]; simpa using hc) (by rw [zs_len]; simpa using hf) (zs_one n)
  simp only [Nat.add_zero] at hst
  have hv : ∀ w, (zeroValue 34).run Try.prog w = .ok zH w := fun w => by kernel_rfl
  obtain ⟨m, rfl⟩ : ∃ m, n = m + 1 := ⟨n - 1, by omega⟩
  simp [Builtin.clear_, run_underlying Try.underlying22, hv, zeros_is, hst]
/-- Behind a clear of its end a row's beginning is a row of one's own. -/
theorem cut_R {base g n cap i : Nat} {xs : List S34} {w : World} (hR : Kd.R k34 34 w base (fun _ => True) (.slice (some ⟨g, 0, none⟩) n cap) xs) (hi : i ≤ xs.length) (hn : xs.length = n) :
    Kd.R k34 34 (w.setCells g (i * 3) (zs (n - i))) base (fun _ => True) (.slice (some ⟨g, 0, none⟩) i cap) (xs.take i) := by
  subst hn
  obtain ⟨_, inner, hown, hreps0⟩ := hR
  have hreps : Reps (k34.M w base (fun k => True ∧ some k ≠ (Value.slice (some ⟨g, 0, none⟩) xs.length cap).ownBlock)) 3 xs inner := hreps0
  clear hreps0
  have r1 := (Kd.reps_take (m := i) hreps (by omega)).imp_ (fun _ _ h => M_any (w' := w.setCells g (i * 3) (zs (xs.length - i))) (b' := base) (ok' := fun k => True ∧ some k ≠ (Value.slice (some ⟨g, 0, none⟩) i cap).ownBlock) h)
  refine ⟨fun _ _ => trivial, inner.take (i * 3), ?_, r1⟩
  have hown2 : w.ownsRow base 34 3 (.slice (some ⟨g, 0, none⟩) xs.length cap) xs.length inner := hown
  show (w.setCells g (i * 3) (zs (xs.length - i))).ownsRow base 34 3 (.slice (some ⟨g, 0, none⟩) i cap) (xs.take i).length (inner.take (i * 3))
  obtain ⟨hl, h2⟩ := hown2
  rcases h2 with ⟨h3, _⟩ | ⟨g', cap', cur, hv, hg, hh, hn', hm, hcz, hct⟩
  · cases h3
  · cases hv
    obtain ⟨c1, k1, k2, k3⟩ := setCells_row (zs (xs.length - i)) (i * 3) w cur hh (by rw [zs_len, hcz]; omega)
    have hlen : (xs.take i).length = i := by rw [List.length_take]; omega
    refine ⟨?_, .inr ⟨g, cap, c1, by rw [hlen], hg, k1, by rw [hlen]; omega, hm, by rw [k2, hcz], ?_⟩⟩
    · rw [List.length_take, hl, hlen]; omega
    · rw [k3, hlen, ← hct, List.take_take, Nat.min_eq_left (by omega)]
      have : (cur.toList.take (i * 3)).length = i * 3 := by rw [List.length_take, Array.length_toList, hcz]; omega
      rw [List.append_assoc, List.take_append_of_le_length (by omega), List.take_of_length_le (by omega)]
def F (p : S34 → Bool) (l : List S34) (j : Nat) : List S34 := (l.take j).filter (fun x => !p x)
theorem F_le (p : S34 → Bool) (l : List S34) (j : Nat) : (F p l j).length ≤ j := by
  have h1 := List.length_filter_le (fun x => !p x) (l.take j)
  have h2 := List.length_take_le j l
  unfold F
  omega
theorem F_next (p : S34 → Bool) (l : List S34) (j : Nat) (h : j < l.length) : F p l (j + 1) = F p l j ++ (if p (rd_T34 l (j : Int)) = true then [] else [rd_T34 l (j : Int)]) := by
  unfold F
  rw [List.take_succ_eq_append_getElem h, List.filter_append, rd_is l j h]
  congr 1
  cases e : p l[j] <;> simp [e]
def cur (p : S34 → Bool) (l : List S34) (j : Nat) : List S34 := F p l j ++ l.drop (F p l j).length
theorem cur_len (p : S34 → Bool) (l : List S34) (j : Nat) (h : j ≤ l.length) : (cur p l j).length = l.length := by
  have := F_le p l j
  unfold cur
  rw [List.length_append, List.length_drop]
  omega
theorem cur_at (p : S34 → Bool) (l : List S34) (j : Nat) (h : j < l.length) : rd_T34 (cur p l j) (j : Int) = rd_T34 l (j : Int) := by
  have hf := F_le p l j
  rw [rd_is _ j (by rw [cur_len p l j (by omega)]; exact h), rd_is l j h]
  unfold cur
  rw [List.getElem_append_right hf, List.getElem_drop]
  congr 1
  omega
theorem cur_keep (p : S34 → Bool) (l : List S34) (j : Nat) (h : j < l.length) (hp : p (rd_T34 l (j : Int)) = false) :
    (cur p l j).set (F p l j).length (rd_T34 l (j : Int)) = cur p l (j + 1) ∧ (F p l (j + 1)).length = (F p l j).length + 1 := by
  have hf := F_le p l j
  have e := F_next p l j h
  rw [hp, if_neg (by simp)] at e
  refine ⟨?_, by rw [e]; simp⟩
  unfold cur
  rw [e, List.set_append_right _ _ (Nat.le_refl _), Nat.sub_self, List.length_append]
  rw [List.drop_eq_getElem_cons (show (F p l j).length < l.length by omega), List.set_cons_zero, List.append_assoc]
  rfl
theorem cur_skip (p : S34 → Bool) (l : List S34) (j : Nat) (h : j < l.length) (hp : p (rd_T34 l (j : Int)) = true) : cur p l (j + 1) = cur p l j ∧ (F p l (j + 1)).length = (F p l j).length := by
  have e := F_next p l j h
  rw [hp, if_pos rfl, List.append_nil] at e
  unfold cur
  rw [e]
  exact ⟨rfl, rfl⟩
theorem cur_start (p : S34 → Bool) (l : List S34) (h : l.any p = true) : cur p l (l.findIdx p + 1) = l ∧ (F p l (l.findIdx p + 1)).length = l.findIdx p ∧ l.findIdx p < l.length := by
  have hlt := List.findIdx_lt_length_of_exists (List.any_eq_true.1 h)
  have hp : p (rd_T34 l ((l.findIdx p : Nat) : Int)) = true := by rw [rd_is l _ hlt]; exact List.findIdx_getElem
  have e := F_next p l (l.findIdx p) hlt
  rw [hp, if_pos rfl, List.append_nil] at e
  have e2 : F p l (l.findIdx p) = l.take (l.findIdx p) := by
    unfold F
    rw [List.filter_eq_self]
    intro x hx
    obtain ⟨k, hk, rfl⟩ := List.getElem_of_mem hx
    rw [List.length_take] at hk
    rw [List.getElem_take]
    have := List.not_of_lt_findIdx (p := p) (xs := l) (i := k) (by omega)
    simpa using this
  have e3 : (F p l (l.findIdx p + 1)).length = l.findIdx p := by rw [e, e2, List.length_take]; omega
  refine ⟨?_, e3, hlt⟩
  unfold cur
  rw [e3, e, e2, List.take_append_drop]
theorem F_all (p : S34 → Bool) (l : List S34) : F p l l.length = l.filter (fun x => !p x) ∧ (cur p l l.length).take (F p l l.length).length = l.filter (fun x => !p x) := by
  have e : F p l l.length = l.filter (fun x => !p x) := by unfold F; rw [List.take_length]
  refine ⟨e, ?_⟩
  unfold cur
  rw [List.take_left, e]
theorem F_none (p : S34 → Bool) (l : List S34) (h : l.any p = false) : l.filter (fun x => !p x) = l := by
  rw [List.filter_eq_self]
  intro x hx
  have := List.any_eq_false.1 h x hx
  simpa using this
end Go.Proofs.Ytclomgbiomojjaa.LDel
