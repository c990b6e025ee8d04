/- The walk of locks.Free. -/
import Derived.Test.YtclomgbiomojjaaLDel2
import Derived.Test.YtclomgbiomojjaaCHold
import Derived.Shelf.Abstract
namespace Go.Proofs.Ytclomgbiomojjaa.LFree
open Go Go.RowKit Go.Shelf Go.Proofs Go.Proofs.Ytclomgbiomojjaa.Q Go.Proofs.Ytclomgbiomojjaa.LDel Go.Proofs.Ytclomgbiomojjaa.LDel2 Go.Proofs.YtclomgbiomojjaaW.PrintWords Go.Proofs.YtclomgbiomojjaaW.PrintLast Go.Proofs.YtclomgbiomojjaaW.PrintMore
set_option linter.unusedVariables false

theorem is_txn (t : Int) (b : Nat) (W : World) (x : S34) (hb : W.cell? ⟨b, 0, none⟩ = some (.int .i64 t)) : Calls Try.prog 37 (#[.agg #[.string x.f0, .int .i64 x.f1, .int .i64 x.f2]] ++ #[.pointer (some ⟨b, 0, none⟩)]) W fun e w' => e = .returned (.bool (x.f1 == t)) ∧ Below W.heap.size W w' := by
  have hlt := World.block_lt_of_cell? W _ hb
  go_enter Try.func37, Try.ntmps37
  have hb2 := ((below_alloc (Below.refl W.heap.size W) (.cells #[.string x.f0, .int .i64 x.f1, .int .i64 x.f2] 34)).cell hlt).trans hb
  go_wp2_with fail
  go_ret
  exact ⟨rfl, below_alloc (Below.refl _ _) _⟩
def freeL (l : List S34) (t : Int) : List S34 := l.filter (fun x => !(x.f1 == t))
set_option maxHeartbeats 4000000 in
set_option maxRecDepth 100000 in
theorem free_calls (A : Option Addr) (c : Nat) (l : List S34) (t : Int) (w : World) (hr : Kd.C k34 w A l.length l) (hl : l.length ≤ 1000000) :
    Calls Try.prog 14 #[.slice A l.length c, .int .i64 t] w fun e w' => ∃ v, e = .returned v ∧ Kd.R k34 34 w' w.heap.size (fun _ => True) v (freeL l t) ∧ Below w.heap.size w w' := by
  have HCL := Lib.hid (fun W (hW : Below w.heap.size w W) => CHold.clone_calls A c l W (Kd.C_below hr hW) (by omega))
  obtain ⟨n, hn⟩ : ∃ n, l.length = n := ⟨_, rfl⟩
  have HN := Lib.hid hn
  rw [hn] at HCL hl ⊢
  clear hr hn
  have hc0 : (w.alloc (.cells #[.int .i64 t] 2 (0, 0))).heap[w.heap.size]? = some (.cells #[.int .i64 t] 2 (0, 0)) := heap_alloc_new w _
  go_enter Try.func14, Try.ntmps14
  go_wp2_with fail
  refine (HCL.out _ (below_alloc (Below.refl _ _) _)).mono ?_
  rintro e w1 ⟨v, rfl, hR1, hb1⟩
  have HK1 := Lib.hid (blk_below hc0 hb1)
  have HB1 := Lib.hid (below_step (below_alloc (Below.refl w.heap.size w) _) hb1)
  have HR1 := Lib.hid hR1
  have hs : (w.alloc (.cells #[.int .i64 t] 2 (0, 0))).heap.size = w.heap.size + 1 := by show (w.heap.push _).size = _; simp
  have HS := Lib.hid hb1.size
  rw [hs] at HR1 HS
  clear hb1 hR1 hc0 hs
  go_wp2_with fail
  have hp : ∀ g, w.heap.size + 1 ≤ g → PredO 37 #[.pointer (some ⟨w.heap.size, 0, none⟩)] (fun x => x.f1 == t) g w1 := fun g hg W x hF =>
    is_txn t w.heap.size W x ((blk_cell ((hF.1 w.heap.size (blk_lt HK1.out) (by omega)).trans HK1.out) 0).trans rfl)
  refine (del_calls 37 #[.pointer (some ⟨w.heap.size, 0, none⟩)] (enters_of Try.func37 (by kernel_rfl) rfl) (fun x => x.f1 == t) (w.heap.size + 1) v l w1 HR1.out (by have := HN.out; omega) HS.out hp).mono ?_
  rintro e w2 ⟨v2, rfl, hR2, hb2⟩
  have HR2 := Lib.hid (Kd.R_lower hR2 (Nat.le_succ w.heap.size))
  have HB2 := Lib.hid (HB1.out.trans (hb2.mono (Nat.le_succ _)))
  clear hR2 hb2 hp
  go_wp2_with fail
  go_ret
  exact ⟨_, rfl, HR2.out, HB2.out⟩
def locks_Free.f (l0 : List (S34)) (a1 : Int) : Option (List (S34)) := if l0.length ≤ 1000000 then some (freeL l0 a1) else none
theorem locks_Free.calls (A0 : Option Addr) (c0 : Nat) (l0 : List (S34)) (a1 : Int) (r : List (S34)) (w : World) (hr0 : Kd.C k34 w A0 l0.length l0) (hc0 : l0.length ≤ c0) (h : locks_Free.f l0 a1 = some r) :
    Calls Try.prog 14 #[.slice A0 l0.length c0, .int .i64 a1] w fun e w' => ∃ v, e = .returned v ∧ Kd.R k34 34 w' w.heap.size (fun _ => True) v r ∧ Below w.heap.size w w' := by
  unfold locks_Free.f at h
  split at h
  · next hl =>
    cases h
    exact free_calls A0 c0 l0 a1 w hr0 hl
  · cases h
end Go.Proofs.Ytclomgbiomojjaa.LFree
-- GIVEN 14 LFree locks_Free ps=sl34:st:34;i64 rs=sl34:st:34 rounds=0 making=1
