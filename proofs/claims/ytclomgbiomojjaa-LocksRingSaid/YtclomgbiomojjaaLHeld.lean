/- The walk of locks.Held. -/
import Derived.Test.YtclomgbiomojjaaQx0
import Derived.WalkLawsBesides
import Derived.WalkSpells
import Derived.Lib.Hide
import Derived.Test.YtclomgbiomojjaaLDel2
import Derived.Shelf.Abstract
import Derived.Test.YtclomgbiomojjaaIHold
/- The walk of slices.Clone at rows of api.Hold. -/
namespace Go.Proofs.Ytclomgbiomojjaa.CHold
open Go Go.RowKit Go.Proofs.Ytclomgbiomojjaa.Q Go.Proofs.YtclomgbiomojjaaW.PrintWords Go.Proofs.YtclomgbiomojjaaW.PrintLast Go.Proofs.YtclomgbiomojjaaW.PrintMore

theorem info_e : (Try.prog.info? 34).map (fun i => (i.zero, i.size, i.bytes)) = some (some (.agg #[.string ⟨#[]⟩, .int .i64 0, .int .i64 0]), 3, 32) := by kernel_rfl
theorem made {w : World} {base : Nat} {ok : Nat → Prop} {x : S34} {cs : List Value} (h : k34.K w x cs) : k34.M w base ok x cs := by
  obtain rfl := k34_open h
  exact k34_mkM w base ok x
theorem clone_calls (A : Option Addr) (c : Nat) (l : List S34) (w : World) (hr : Kd.C k34 w A l.length l) (hl : l.length * 32 ≤ 140737488355328) :
    Calls Try.prog 29 #[.slice A l.length c] w fun e w' => ∃ v : Value, e = .returned v ∧ Kd.R k34 34 w' w.heap.size (fun _ => True) v l ∧ Below w.heap.size w w' := by
  have he := fun W a n c => Lib.run_eql_slice_nil (P := Try.prog) W 22 34 a n c 0 0 Try.underlying22
  cases A with
  | none =>
    have hz : l = [] := by
      cases l with
      | nil => rfl
      | cons x r => obtain ⟨ad, _, h, _⟩ := Kd.C_get hr z34 0 (by omega) (by simp); cases h
    subst hz
    go_enter Try.func29, Try.ntmps29
    go_wp2_with fail
    go_ret
    exact ⟨_, rfl, Kd.R_nil _ _ _ _ _, Below.refl _ _⟩
  | some ad =>
    have HR := Lib.hid hr
    have HB := Lib.hid (Below.refl w.heap.size w)
    clear hr
    go_enter Try.func29, Try.ntmps29
    go_wp2_with (first | ((with_reducible refine gate_dst (N := 5) rfl ?_); refine Kd.R_lit k34 _ 34 ?hg (N := 5) ?hd (xs := ([] : List S34)) (inner := []) (ok := fun _ => True) (okp := fun _ => True) ?hr ?hp (fun _ hk => hk) trivial (Below.refl _ _) (Nat.le_refl _) (by simp) ?_; (case hd => rfl); (case hg => rfl); (case hr => first | (go_simp; done) | (go_simp; rfl)); (case hp => exact (Reps.none _ _)); intro v1 w1 ho1 hb1 hg_ hnew_; clear hg_ hnew_; have HO1 := Lib.hid ho1; have HB1 := Lib.hid hb1; clear ho1 hb1) | ((with_reducible refine gate_builtin (b := .append) (xs := #[.tmp 5, .tmp 6]) rfl ?_); at_builtin; refine Kd.R_append_rows k34 (Rr := k34.K w1) (w0 := w) w.heap.size rfl (.tmp 5) (.tmp 6) 22 34 (.agg #[.string ⟨#[]⟩, .int .i64 0, .int .i64 0]) 32 rfl Try.underlying22 info_e rfl (by decide) (by omega) v1 [] l (some ad) l.length c (fun _ => True) (fun _ => False) rfl rfl ?aO ?aR ?aK (fun _ hk => hk.elim) (fun _ _ => trivial) ?aB ?aS ?aL ?_; (case aO => exact HO1.out); (case aR => exact Kd.C_below HR.out HB1.out); (case aK => exact fun _ _ h => made h); (case aB => exact HB1.out); (case aS => exact HB1.out.size); (case aL => simpa using hl); intro v2 w2 ho2 hb2 hg2 hat2; have HO2 := Lib.hid ho2; have HB2 := Lib.hid hb2; clear ho2 hb2 hg2 hat2))
    go_ret
    exact ⟨_, rfl, by simpa using HO2.out, HB2.out⟩
end Go.Proofs.Ytclomgbiomojjaa.CHold
/- The walk of locks.Free. -/
namespace Go.Proofs.Ytclomgbiomojjaa.LFree
open Go Go.RowKit Go.Shelf Go.Proofs Go.Proofs.Ytclomgbiomojjaa.Q Go.Proofs.Ytclomgbiomojjaa.LDel Go.Proofs.Ytclomgbiomojjaa.LDel2 Go.Proofs.YtclomgbiomojjaaW.PrintWords Go.Proofs.YtclomgbiomojjaaW.PrintLast Go.Proofs.YtclomgbiomojjaaW.PrintMore
set_option linter.unusedVariables false

theorem is_txn (t : Int) (b : Nat) (W : World) (x : S34) (hb : W.cell? ⟨b, 0, none⟩ = some (.int .i64 t)) : Calls Try.prog 37 (#[.agg #[.string x.f0, .int .i64 x.f1, .int .i64 x.f2]] ++ #[.pointer (some ⟨b, 0, none⟩)]) W fun e w' => e = .returned (.bool (x.f1 == t)) ∧ Below W.heap.size W w' := by
  have hlt := World.block_lt_of_cell? W _ hb
  go_enter Try.func37, Try.ntmps37
  have hb2 := ((below_alloc (Below.refl W.heap.size W) (.cells #[.string x.f0, .int .i64 x.f1, .int .i64 x.f2] 34)).cell hlt).trans hb
  go_wp2_with fail
  go_ret
  exact ⟨rfl, below_alloc (Below.refl _ _) _⟩
def freeL (l : List S34) (t : Int) : List S34 := l.filter (fun x => !(x.f1 == t))
set_option maxHeartbeats 4000000 in
set_option maxRecDepth 100000 in
theorem free_calls (A : Option Addr) (c : Nat) (l : List S34) (t : Int) (w : World) (hr : Kd.C k34 w A l.length l) (hl : l.length ≤ 1000000) :
    Calls Try.prog 14 #[.slice A l.length c, .int .i64 t] w fun e w' => ∃ v, e = .returned v ∧ Kd.R k34 34 w' w.heap.size (fun _ => True) v (freeL l t) ∧ Below w.heap.size w w' := by
  have HCL := Lib.hid (fun W (hW : Below w.heap.size w W) => CHold.clone_calls A c l W (Kd.C_below hr hW) (by omega))
  obtain ⟨n, hn⟩ : ∃ n, l.length = n := ⟨_, rfl⟩
  have HN := Lib.hid hn
  rw [hn] at HCL hl ⊢
  clear hr hn
  have hc0 : (w.alloc (.cells #[.int .i64 t] 2 (0, 0))).heap[w.heap.size]? = some (.cells #[.int .i64 t] 2 (0, 0)) := heap_alloc_new w _
  go_enter Try.func14, Try.ntmps14
  go_wp2_with fail
  refine (HCL.out _ (below_alloc (Below.refl _ _) _)).mono ?_
  rintro e w1 ⟨v, rfl, hR1, hb1⟩
  have HK1 := Lib.hid (blk_below hc0 hb1)
  have HB1 := Lib.hid (below_step (below_alloc (Below.refl w.heap.size w) _) hb1)
  have HR1 := Lib.hid hR1
  have hs : (w.alloc (.cells #[.int .i64 t] 2 (0, 0))).heap.size = w.heap.size + 1 := by show (w.heap.push _).size = _; simp
  have HS := Lib.hid hb1.size
  rw [hs] at HR1 HS
  clear hb1 hR1 hc0 hs
  go_wp2_with fail
  have hp : ∀ g, w.heap.size + 1 ≤ g → PredO 37 #[.pointer (some ⟨w.heap.size, 0, none⟩)] (fun x => x.f1 == t) g w1 := fun g hg W x hF =>
    is_txn t w.heap.size W x ((blk_cell ((hF.1 w.heap.size (blk_lt HK1.out) (by omega)).trans HK1.out) 0).trans rfl)
  refine (del_calls 37 #[.pointer (some ⟨w.heap.size, 0, none⟩)] (enters_of Try.func37 (by kernel_rfl) rfl) (fun x => x.f1 == t) (w.heap.size + 1) v l w1 HR1.out (by have := HN.out; omega) HS.out hp).mono ?_
  rintro e w2 ⟨v2, rfl, hR2, hb2⟩
  have HR2 := Lib.hid (Kd.R_lower hR2 (Nat.le_succ w.heap.size))
  have HB2 := Lib.hid (HB1.out.trans (hb2.mono (Nat.le_succ _)))
  clear hR2 hb2 hp
  go_wp2_with fail
  go_ret
  exact ⟨_, rfl, HR2.out, HB2.out⟩
def locks_Free.f (l0 : List (S34)) (a1 : Int) : Option (List (S34)) := if l0.length ≤ 1000000 then some (freeL l0 a1) else none
theorem locks_Free.calls (A0 : Option Addr) (c0 : Nat) (l0 : List (S34)) (a1 : Int) (r : List (S34)) (w : World) (hr0 : Kd.C k34 w A0 l0.length l0) (hc0 : l0.length ≤ c0) (h : locks_Free.f l0 a1 = some r) :
    Calls Try.prog 14 #[.slice A0 l0.length c0, .int .i64 a1] w fun e w' => ∃ v, e = .returned v ∧ Kd.R k34 34 w' w.heap.size (fun _ => True) v r ∧ Below w.heap.size w w' := by
  unfold locks_Free.f at h
  split at h
  · next hl =>
    cases h
    exact free_calls A0 c0 l0 a1 w hr0 hl
  · cases h
end Go.Proofs.Ytclomgbiomojjaa.LFree
-- GIVEN 14 LFree locks_Free ps=sl34:st:34;i64 rs=sl34:st:34 rounds=0 making=1
namespace Go.Proofs.Ytclomgbiomojjaa.LHeld
open Go Go.RowKit Go.Shelf Go.Proofs Go.Proofs.Ytclomgbiomojjaa.Q Go.Proofs.Ytclomgbiomojjaa.IHold Go.Proofs.YtclomgbiomojjaaW.PrintWords Go.Proofs.YtclomgbiomojjaaW.PrintLast Go.Proofs.YtclomgbiomojjaaW.PrintMore
set_option linter.unusedVariables false

theorem is_dir (d : ByteArray) (b : Nat) (W : World) (x : S34) (hb : W.cell? ⟨b, 0, none⟩ = some (.string d)) : Calls Try.prog 35 (#[.agg #[.string x.f0, .int .i64 x.f1, .int .i64 x.f2]] ++ #[.pointer (some ⟨b, 0, none⟩)]) W fun e w' => e = .returned (.bool (x.f0.toList == d.toList)) ∧ Below W.heap.size W w' := by
  have hlt := World.block_lt_of_cell? W _ hb
  go_enter Try.func35, Try.ntmps35
  have hb2 := ((below_alloc (Below.refl W.heap.size W) (.cells #[.string x.f0, .int .i64 x.f1, .int .i64 x.f2] 34)).cell hlt).trans hb
  go_wp2_with fail
  go_ret
  exact ⟨rfl, below_alloc (Below.refl _ _) _⟩
def heldI (l : List S34) (d : ByteArray) : Int := idxI (fun x => x.f0.toList == d.toList) l
def heldT (l : List S34) (d : ByteArray) : Int := match l.find? (fun x => x.f0.toList == d.toList) with | some x => x.f1 | none => 0
def heldB (l : List S34) (d : ByteArray) : Bool := l.any (fun x => x.f0.toList == d.toList)
theorem any_is (l : List S34) (d : ByteArray) : heldB l d = false → heldI l d = -1 ∧ heldT l d = 0 := fun h => by
  unfold heldB at h
  refine ⟨?_, ?_⟩
  · unfold heldI idxI; rw [h]; rfl
  · unfold heldT
    rw [List.find?_eq_none.2 (fun x hx => by have := List.any_eq_false.1 h x hx; simpa using this)]
theorem some_is (l : List S34) (d : ByteArray) : heldB l d = true → ∃ i : Nat, i < l.length ∧ heldI l d = i ∧ heldT l d = (rd_T34 l (i : Int)).f1 := fun h => by
  unfold heldB at h
  have hlt := List.findIdx_lt_length_of_exists (List.any_eq_true.1 h)
  refine ⟨l.findIdx (fun x => x.f0.toList == d.toList), hlt, ?_, ?_⟩
  · unfold heldI idxI; rw [if_pos h]
  · unfold heldT
    rw [rd_is l _ hlt, List.find?_eq_getElem?_findIdx, List.getElem?_eq_getElem hlt]
set_option maxHeartbeats 4000000 in
set_option maxRecDepth 100000 in
theorem held_calls (A : Option Addr) (c : Nat) (l : List S34) (d : ByteArray) (w : World) (hr : Kd.C k34 w A l.length l) (hl : l.length ≤ 4611686018427387904) :
    Calls Try.prog 13 #[.slice A l.length c, .string d] w fun e w' => e = .returned (.tuple #[.int .i64 (heldT l d), .bool (heldB l d)]) ∧ Below w.heap.size w w' := by
  have HI := Lib.hid (fun (W : World) (hW : Below w.heap.size w W) (hb : W.cell? ⟨w.heap.size, 0, none⟩ = some (.string d)) =>
    index_calls 35 #[.pointer (some ⟨w.heap.size, 0, none⟩)] (enters_of Try.func35 (by kernel_rfl) rfl) (fun x => x.f0.toList == d.toList) A c l W
      (fun W2 x _ hW2 => is_dir d w.heap.size W2 x ((hW2.cell (World.block_lt_of_cell? W _ hb)).trans hb)) (Kd.C_below hr hW) hl)
  have HR := Lib.hid hr
  obtain ⟨n, hn⟩ : ∃ n, l.length = n := ⟨_, rfl⟩
  have HN := Lib.hid hn
  rw [hn] at HI hl ⊢
  have hc0 : (w.alloc (.cells #[.string d] 9 (0, 0))).cell? ⟨w.heap.size, 0, none⟩ = some (.string d) := blk_cell (heap_alloc_new w _) 0
  clear hr hn
  cases hb : heldB l d with
  | false =>
    obtain ⟨e1, e2⟩ := any_is l d hb
    unfold heldI at e1
    rw [e1] at HI
    rw [e2]
    clear hb e1 e2
    go_enter Try.func13, Try.ntmps13
    go_wp2_with fail
    refine (HI.out _ (below_alloc (Below.refl _ _) _) hc0).mono ?_
    rintro e w1 ⟨rfl, hb1⟩
    have HB1 := Lib.hid (below_step (below_alloc (Below.refl _ _) _) hb1)
    clear hb1 hc0
    go_wp2_with fail
    go_ret2
    exact ⟨rfl, HB1.out⟩
  | true =>
    obtain ⟨i, hi, e1, e2⟩ := some_is l d hb
    unfold heldI at e1
    rw [e1] at HI
    rw [e2]
    clear hb e1 e2
    obtain ⟨ad, ea, hx0, hx1, hx2⟩ := at_T34 HR.out (i : Int) (by omega) (by have := HN.out; omega)
    simp only [Int.toNat_natCast] at hx0 hx1 hx2
    cases ea
    have hiz : (i : Int) < (n : Int) := by have := HN.out; omega
    go_enter Try.func13, Try.ntmps13
    go_wp2_with fail
    refine (HI.out _ (below_alloc (Below.refl _ _) _) hc0).mono ?_
    rintro e w1 ⟨rfl, hb1⟩
    have HB1 := Lib.hid (below_step (below_alloc (Below.refl _ _) _) hb1)
    clear hb1 hc0
    have hx1' := (HB1.out.cell (World.block_lt_of_cell? w _ hx1)).trans hx1
    go_wp2_with fail
    go_ret2
    exact ⟨rfl, HB1.out⟩
def locks_Held.f (l0 : List (S34)) (a1 : ByteArray) : Option (Int × Bool) := if l0.length ≤ 1000000 then some (heldT l0 a1, heldB l0 a1) else none
theorem locks_Held.calls (A0 : Option Addr) (c0 : Nat) (l0 : List (S34)) (a1 : ByteArray) (r1 : Int) (r2 : Bool) (w : World) (hr0 : Kd.C k34 w A0 l0.length l0) (hc0 : l0.length ≤ c0) (h : locks_Held.f l0 a1 = some (r1, r2)) :
    Calls Try.prog 13 #[.slice A0 l0.length c0, .string a1] w fun e w' => e = .returned (.tuple #[.int .i64 r1, .bool r2]) ∧ Below w.heap.size w w' := by
  unfold locks_Held.f at h
  split at h
  · next hl =>
    cases h
    exact held_calls A0 c0 l0 a1 w hr0 (by omega)
  · cases h
end Go.Proofs.Ytclomgbiomojjaa.LHeld
-- GIVEN 13 LHeld locks_Held ps=sl34:st:34;str rs=i64;bool rounds=0 making=1
