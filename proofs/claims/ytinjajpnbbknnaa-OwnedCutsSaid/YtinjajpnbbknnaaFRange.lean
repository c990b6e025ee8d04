/- The walk of canton/owned.find: the place of a text in rows of api.Range by their first field. -/
import Derived.Test.YtinjajpnbbknnaaShelf
import Derived.Test.YtinjajpnbbknnaaBRange
import Derived.Test.YtinjajpnbbknnaaQx0
import Derived.BigQuiet
import Derived.Deep.QuietTactic
namespace Go.Proofs.Ytinjajpnbbknnaa.FRange
open Go Go.RowKit Go.Shelf Go.Proofs Go.Proofs.Ytinjajpnbbknnaa.Q Go.Proofs.YtinjajpnbbknnaaW.PrintWords Go.Proofs.YtinjajpnbbknnaaW.PrintLast Go.Proofs.YtinjajpnbbknnaaW.PrintMore

def cmpP (p : ByteArray) (x : S45) : Int := Lib.compareBytes x.f0.data.toList p.data.toList
theorem compare_is (a b : ByteArray) (w : World) : Calls Try.prog 56 #[.string a, .string b] w fun e w' => e = .returned (.int .i64 (Lib.compareBytes a.data.toList b.data.toList)) ∧ w = w' := by
  refine (Try.strings_Compare a b w).mono ?_
  rintro e w' ⟨rfl, rfl⟩
  exact ⟨rfl, rfl⟩
set_option maxRecDepth 100000 in
theorem cmp_below (p : ByteArray) (w : World) : BRange.CmpBelow 55 #[] p (cmpP p) w := fun W x _ => by
  unfold cmpP
  have hc := fun w => compare_is x.f0 p w
  obtain ⟨r, hr⟩ : ∃ r, Lib.compareBytes x.f0.data.toList p.data.toList = r := ⟨_, rfl⟩
  rw [hr] at hc ⊢
  have HC := Lib.hid hc
  clear hc hr
  go_enter Try.func55, Try.ntmps55
  go_wp2_with fail
  refine (HC.out _).mono ?_
  rintro e w' ⟨rfl, rfl⟩
  go_wp2_with fail
  go_ret
  exact ⟨rfl, (Below.refl _ _).alloc (Nat.le_refl _) _⟩
def at_ (p : ByteArray) (l : List S45) : Nat := BRange.bs (cmpP p) l l.length 0 l.length
theorem bs_le (cmp : S45 → Int) (l : List S45) : ∀ (k i j : Nat), i ≤ j → BRange.bs cmp l k i j ≤ j
  | 0, i, j, h => h
  | k + 1, i, j, h => by
    unfold BRange.bs
    by_cases hlt : i < j
    · rw [if_pos hlt]
      by_cases hc : cmp (rd_T45 l ((i + j) / 2 : Nat)) < 0
      · rw [if_pos hc]; exact bs_le cmp l k _ _ (by omega)
      · rw [if_neg hc]; exact Nat.le_trans (bs_le cmp l k _ _ (by omega)) (by omega)
    · rw [if_neg hlt]; exact h
theorem at_le (p : ByteArray) (l : List S45) : at_ p l ≤ l.length := bs_le _ _ _ _ _ (Nat.zero_le _)
def own_ (p : ByteArray) (l : List S45) : Bool := BRange.bsB (cmpP p) l (at_ p l)
set_option maxRecDepth 100000 in
theorem find_calls (A : Option Addr) (c : Nat) (l : List S45) (p : ByteArray) (w : World) (hr : Kd.C k45 w A l.length l) (hl : l.length ≤ 4611686018427387904) :
    Calls Try.prog 36 #[.slice A l.length c, .string p] w fun e w' => e = .returned (.tuple #[.int .i64 (at_ p l : Nat), .bool (own_ p l)]) ∧ Below w.heap.size w w' := by
  have hc := fun w hp hr => BRange.bs_calls 55 #[] (enters_of Try.func55 (by kernel_rfl) rfl) p (cmpP p) A c l w hp hr hl
  have HC := Lib.hid (hc w (cmp_below p w) hr)
  clear hc hr
  unfold own_ at_
  obtain ⟨i, hi⟩ : ∃ i, BRange.bs (cmpP p) l l.length 0 l.length = i := ⟨_, rfl⟩
  obtain ⟨b, hb⟩ : ∃ b, BRange.bsB (cmpP p) l i = b := ⟨_, rfl⟩
  rw [hi, hb] at HC
  rw [hi, hb]
  clear hi hb
  go_enter Try.func36, Try.ntmps36
  go_wp2_with fail
  refine HC.out.mono ?_
  rintro e w' ⟨rfl, hb2⟩
  have HB := Lib.hid hb2
  clear hb2
  go_wp2_with fail
  go_ret2
  exact ⟨rfl, HB.out⟩

end Go.Proofs.Ytinjajpnbbknnaa.FRange
