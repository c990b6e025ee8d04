/- The walks of mounts.find, its comparison, and the closure of mounts.Begin. -/
import Derived.Test.YtpkaedpgpncgpaaShelf
import Derived.Test.YtpkaedpgpncgpaaCMount
import Derived.Test.YtpkaedpgpncgpaaBMount
import Derived.Test.YtpkaedpgpncgpaaIMount
import Derived.Test.YtpkaedpgpncgpaaNMount
import Derived.Test.YtpkaedpgpncgpaaQx5
import Derived.BigQuiet
import Derived.Deep.QuietTactic
namespace Go.Proofs.Ytpkaedpgpncgpaa.MBegin
open Go Go.RowKit Go.Shelf Go.Proofs Go.Proofs.Ytpkaedpgpncgpaa.Q Go.Proofs.YtpkaedpgpncgpaaW.PrintWords Go.Proofs.YtpkaedpgpncgpaaW.PrintLast Go.Proofs.YtpkaedpgpncgpaaW.PrintMore

def cmpP (p : ByteArray) (x : S27) : Int := Lib.compareBytes x.f0.data.toList p.data.toList
theorem compare_is (a b : ByteArray) (w : World) : Calls Try.prog 36 #[.string a, .string b] w fun e w' => e = .returned (.int .i64 (Lib.compareBytes a.data.toList b.data.toList)) ∧ w = w' := by
  refine (Try.strings_Compare a b w).mono ?_
  rintro e w' ⟨rfl, rfl⟩
  exact ⟨rfl, rfl⟩
set_option maxRecDepth 100000 in
theorem cmp_below (p : ByteArray) (w : World) : BMount.CmpBelow 35 #[] p (cmpP p) w := fun W x _ => by
  unfold cmpP
  have hc := fun w => compare_is x.f0 p w
  obtain ⟨r, hr⟩ : ∃ r, Lib.compareBytes x.f0.data.toList p.data.toList = r := ⟨_, rfl⟩
  rw [hr] at hc ⊢
  have HC := Lib.hid hc
  clear hc hr
  go_enter Try.func35, Try.ntmps35
  go_wp2_with fail
  refine (HC.out _).mono ?_
  rintro e w' ⟨rfl, rfl⟩
  go_wp2_with fail
  go_ret
  exact ⟨rfl, (Below.refl _ _).alloc (Nat.le_refl _) _⟩
def at_ (p : ByteArray) (l : List S27) : Nat := BMount.bs (cmpP p) l l.length 0 l.length
theorem bs_le (cmp : S27 → Int) (l : List S27) : ∀ (k i j : Nat), i ≤ j → BMount.bs cmp l k i j ≤ j
  | 0, i, j, h => h
  | k + 1, i, j, h => by
    unfold BMount.bs
    by_cases hlt : i < j
    · rw [if_pos hlt]
      by_cases hc : cmp (rd_T27 l ((i + j) / 2 : Nat)) < 0
      · rw [if_pos hc]; exact bs_le cmp l k _ _ (by omega)
      · rw [if_neg hc]; exact Nat.le_trans (bs_le cmp l k _ _ (by omega)) (by omega)
    · rw [if_neg hlt]; exact h
theorem at_le (p : ByteArray) (l : List S27) : at_ p l ≤ l.length := bs_le _ _ _ _ _ (Nat.zero_le _)
def own_ (p : ByteArray) (l : List S27) : Bool := BMount.bsB (cmpP p) l (at_ p l)
set_option maxRecDepth 100000 in
theorem find_calls (A : Option Addr) (c : Nat) (l : List S27) (p : ByteArray) (w : World) (hr : Kd.C k27 w A l.length l) (hl : l.length ≤ 4611686018427387904) :
    Calls Try.prog 25 #[.slice A l.length c, .string p] w fun e w' => e = .returned (.tuple #[.int .i64 (at_ p l : Nat), .bool (own_ p l)]) ∧ Below w.heap.size w w' := by
  have hc := fun w hp hr => BMount.bs_calls 35 #[] (enters_of Try.func35 (by kernel_rfl) rfl) p (cmpP p) A c l w hp hr hl
  have HC := Lib.hid (hc w (cmp_below p w) hr)
  clear hc hr
  unfold own_ at_
  obtain ⟨i, hi⟩ : ∃ i, BMount.bs (cmpP p) l l.length 0 l.length = i := ⟨_, rfl⟩
  obtain ⟨b, hb⟩ : ∃ b, BMount.bsB (cmpP p) l i = b := ⟨_, rfl⟩
  rw [hi, hb] at HC
  rw [hi, hb]
  clear hi hb
  go_enter Try.func25, Try.ntmps25
  go_wp2_with fail
  refine HC.out.mono ?_
  rintro e w' ⟨rfl, hb2⟩
  have HB := Lib.hid hb2
  clear hb2
  go_wp2_with fail
  go_ret2
  exact ⟨rfl, HB.out⟩

def movB (x : S27) : Bool := x.f3 != x.f1
def inK (a b : ByteArray) : Bool := (path_In.f 1 a b).getD false
def busyB (p : ByteArray) (x : S27) : Bool := movB x && (inK p x.f0 || inK x.f0 p)
def inOk (p : ByteArray) (x : S27) : Bool := (path_In.f 1 p x.f0).isSome && (path_In.f 1 x.f0 p).isSome
set_option maxRecDepth 100000 in
theorem moves_is (x : S27) (b : Bool) (h : movB x = b) (w : World) : Calls Try.prog 26 #[.agg #[.string x.f0, .int .i64 x.f1, .int .i64 x.f2, .int .i64 x.f3]] w fun e w' => e = .returned (.bool b) ∧ Below w.heap.size w w' := by
  have hb : (x.f3 != x.f1) = b := h
  clear h
  go_enter Try.func26, Try.ntmps26
  go_wp2_with fail
  go_ret
  exact ⟨by first | rfl | rw [← hb], (Below.refl _ _).alloc (Nat.le_refl _) _⟩
theorem in_is (a b : ByteArray) (r : Bool) (h : path_In.f 1 a b = some r) (w : World) : Calls Try.prog 29 #[.string a, .string b] w fun e w' => e = .returned (.bool r) ∧ Below w.heap.size w w' := by
  refine (path_In.calls 1 a b r w h).mono ?_
  rintro e w' ⟨rfl, hb⟩
  exact ⟨rfl, hb⟩

set_option maxRecDepth 100000 in
theorem busy_pred (p : ByteArray) (g : Nat) (l : List S27) (w : World) (hall : l.all (inOk p) = true) (hg : w.heap[g]? = some (.cells #[.string p] 9 (0, 0))) :
    IMount.PredB 28 #[.pointer (some ⟨g, 0, none⟩)] (busyB p) l w := fun W x hx hW => by
  have h1 := List.all_eq_true.1 hall x hx
  unfold inOk at h1
  simp only [Bool.and_eq_true, Option.isSome_iff_exists] at h1
  obtain ⟨⟨r1, h1⟩, ⟨r2, h2⟩⟩ := h1
  have e1 : inK p x.f0 = r1 := by unfold inK; rw [h1]; rfl
  have e2 : inK x.f0 p = r2 := by unfold inK; rw [h2]; rfl
  obtain ⟨m, hm⟩ : ∃ m, movB x = m := ⟨_, rfl⟩
  have HM := Lib.hid (fun w => moves_is x m hm w)
  have H1 := Lib.hid (fun w => in_is p x.f0 r1 h1 w)
  have H2 := Lib.hid (fun w => in_is x.f0 p r2 h2 w)
  have hgl : g < w.heap.size := blk_lt hg
  have HG := Lib.hid ((hW.block g hgl).trans hg)
  have hgW : g < W.heap.size := Nat.lt_of_lt_of_le hgl hW.size
  have goal : busyB p x = (m && (r1 || r2)) := by unfold busyB; rw [hm, e1, e2]
  rw [goal]
  clear goal hm h1 h2 e1 e2 hg hW hgl hall hx
  cases m <;> cases r1 <;> cases r2
  all_goals
    go_enter Try.func28, Try.ntmps28
    go_wp2_with fail
    refine (HM.out _).mono ?_
    rintro e w1 ⟨rfl, hb1⟩
    have hs1 : (W.heap.push (.cells #[.string x.f0, .int .i64 x.f1, .int .i64 x.f2, .int .i64 x.f3] 27)).size = W.heap.size + 1 := by simp
    have c0 : w1.cell? ⟨W.heap.size, 0, none⟩ = some (.string x.f0) := (hb1.cell (by show W.heap.size < _; exact hs1 ▸ Nat.lt_succ_self _)).trans (World.cell?_alloc_at _ _ W.heap.size 0 rfl)
    have cg : w1.cell? ⟨g, 0, none⟩ = some (.string p) := (hb1.cell (by show g < _; exact hs1 ▸ Nat.lt_succ_of_lt hgW)).trans ((World.cell?_alloc_past _ g 0 hgW).trans (blk_cell HG.out 0))
    have HB1 : Hid (Below W.heap.size W w1) := ((Below.refl W.heap.size W).alloc (Nat.le_refl _) _).trans (hb1.mono (by show W.heap.size ≤ _; exact hs1 ▸ Nat.le_succ _))
    clear hb1 hs1
    go_wp2_with fail
    first
      | (go_ret; exact ⟨rfl, HB1.out⟩)
      | (refine (H1.out _).mono ?_
         rintro e w2 ⟨rfl, hb2⟩
         have d0 : w2.cell? ⟨W.heap.size, 0, none⟩ = some (.string x.f0) := (hb2.cell (World.block_lt_of_cell? w1 _ c0)).trans c0
         have dg : w2.cell? ⟨g, 0, none⟩ = some (.string p) := (hb2.cell (World.block_lt_of_cell? w1 _ cg)).trans cg
         have HB2 : Hid (Below W.heap.size W w2) := HB1.out.trans (hb2.mono HB1.out.size)
         clear hb2 c0 cg
         go_wp2_with fail
         first
           | (go_ret; exact ⟨rfl, HB2.out⟩)
           | (refine (H2.out _).mono ?_
              rintro e w3 ⟨rfl, hb3⟩
              have HB3 : Hid (Below W.heap.size W w3) := HB2.out.trans (hb3.mono HB2.out.size)
              clear hb3
              go_wp2_with fail
              go_ret
              exact ⟨rfl, HB3.out⟩))
end Go.Proofs.Ytpkaedpgpncgpaa.MBegin
