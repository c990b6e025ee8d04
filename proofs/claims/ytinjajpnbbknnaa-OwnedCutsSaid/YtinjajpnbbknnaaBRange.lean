/- The walk of slices.BinarySearchFunc at rows of api.Range, for any function value that compares and lays no more than new memory. -/
import Derived.Test.YtinjajpnbbknnaaQx0
import Derived.WalkLawsBesides
import Derived.Lib.Hide
import Derived.Deep.LoopGhost
namespace Go.Proofs.Ytinjajpnbbknnaa.BRange
open Go Go.RowKit Go.Proofs.Ytinjajpnbbknnaa.Q Go.Proofs.YtinjajpnbbknnaaW.PrintWords Go.Proofs.YtinjajpnbbknnaaW.PrintLast Go.Proofs.YtinjajpnbbknnaaW.PrintMore

/-- the search: the first place in [i, j) from which on nothing compares as less, as the halving finds it -/
def bs (cmp : S45 → Int) (l : List S45) : Nat → Nat → Nat → Nat
  | 0, i, _ => i
  | k + 1, i, j => if i < j then (if cmp (rd_T45 l ((i + j) / 2 : Nat)) < 0 then bs cmp l k ((i + j) / 2 + 1) j else bs cmp l k i ((i + j) / 2)) else i
def CmpBelow (g : Nat) (lb : Array Value) (p : ByteArray) (cmp : S45 → Int) (w : World) : Prop :=
  ∀ (W : World) (x : S45), Below w.heap.size w W → Calls Try.prog g (#[.agg #[.string x.f0, .int .i64 x.f1, .int .i64 x.f2], .string p] ++ lb) W fun e w' => e = .returned (.int .i64 (cmp x)) ∧ Below W.heap.size W w'
def bsB (cmp : S45 → Int) (l : List S45) (i : Nat) : Bool := decide (i < l.length) && decide (cmp (rd_T45 l i) = 0)

set_option maxRecDepth 100000 in
theorem bs_calls (g : Nat) (lb : Array Value) (eg : ∀ args w, (callFunc g args).run Try.prog w = .ok (.enter g args) w) (p : ByteArray) (cmp : S45 → Int) (A : Option Addr) (c : Nat) (l : List S45) (w : World) (hp : CmpBelow g lb p cmp w)
    (hr : Kd.C k45 w A l.length l) (hl : l.length ≤ 4611686018427387904) :
    Calls Try.prog 54 #[.slice A l.length c, .string p, .func (.func g) #[] lb] w fun e w' => e = .returned (.tuple #[.int .i64 (bs cmp l l.length 0 l.length : Nat), .bool (bsB cmp l (bs cmp l l.length 0 l.length))]) ∧ Below w.heap.size w w' := by
  have HR := Lib.hid hr
  have HP := Lib.hid hp
  clear hr hp
  obtain ⟨n, hn⟩ : ∃ n, l.length = n := ⟨_, rfl⟩
  obtain ⟨R, hR⟩ : ∃ R, bs cmp l n 0 n = R := ⟨_, rfl⟩
  have HN := Lib.hid hn
  have HRR := Lib.hid hR
  have H0 : Hid (bs cmp l n 0 n = R) := HRR
  rw [hn] at hl ⊢
  rw [hR]
  clear hn hR
  go_enter Try.func54, Try.ntmps54
  go_wp2_with fail
  go_loopw [9, 10] (fun a b wr => ∃ i j k : Nat, a = .int .i64 i ∧ b = .int .i64 j ∧ i ≤ j ∧ j ≤ n ∧ j - i ≤ k ∧ Hid (bs cmp l k i j = R) ∧ Hid (Below w.heap.size w wr)) (fun a b _ => (intOf b).toNat - (intOf a).toNat)
  case atStart => exact ⟨0, n, n, rfl, rfl, by omega, by omega, by omega, H0, Below.refl _ _⟩
  case round =>
    obtain ⟨i, j, k, rfl, rfl, hij, hj, hk, hbs, hB⟩ := hrel
    clear H0
    by_cases hlt : i < j
    · obtain ⟨k, rfl⟩ : ∃ m, k = m + 1 := ⟨k - 1, by omega⟩
      have hbs2 := hbs.out
      unfold bs at hbs2
      rw [if_pos hlt] at hbs2
      have HS := Lib.hid hbs2
      have b1 : i ≤ (i + j) / 2 := by omega
      have b2 : (i + j) / 2 < j := by omega
      clear hbs hbs2
      have hb := hB.out
      obtain ⟨ad, ea, hx0, hx1, hx2⟩ := at_T45 HR.out (((i + j) / 2 : Nat) : Int) (by omega) (by have := HN.out; omega)
      replace hx0 := (hb.cell (World.block_lt_of_cell? w _ hx0)).trans hx0
      replace hx1 := (hb.cell (World.block_lt_of_cell? w _ hx1)).trans hx1
      replace hx2 := (hb.cell (World.block_lt_of_cell? w _ hx2)).trans hx2
      simp only [Int.toNat_natCast] at hx0 hx1 hx2
      have HCALL := Lib.hid (HP.out _ (rd_T45 l (((i + j) / 2 : Nat) : Int)) hb)
      clear hb
      obtain ⟨x, hxx⟩ : ∃ x, rd_T45 l (((i + j) / 2 : Nat) : Int) = x := ⟨_, rfl⟩
      rw [hxx] at hx0 hx1 hx2 HCALL HS
      clear hxx
      cases ea
      by_cases hc0 : cmp x < 0
      · have HS2 : Hid (bs cmp l k ((i + j) / 2 + 1) j = R) := by
          have := HS.out
          rw [if_pos hc0] at this
          exact this
        clear HS
        go_wp2_with fail
        refine HCALL.out.mono ?_
        rintro e w' ⟨rfl, hb2⟩
        have HB2 := Lib.hid (hB.out.trans (hb2.mono hB.out.size))
        clear hb2 HCALL
        go_wp2_with fail
        go_roundw
        case rel => exact ⟨(i + j) / 2 + 1, j, k, by go_num, rfl, by omega, by omega, by omega, HS2, HB2⟩
        case measure => simp [intOf]; omega
      · have HS2 : Hid (bs cmp l k i ((i + j) / 2) = R) := by
          have := HS.out
          rw [if_neg hc0] at this
          exact this
        clear HS
        go_wp2_with fail
        refine HCALL.out.mono ?_
        rintro e w' ⟨rfl, hb2⟩
        have HB2 := Lib.hid (hB.out.trans (hb2.mono hB.out.size))
        clear hb2 HCALL
        go_wp2_with fail
        go_roundw
        case rel => exact ⟨i, (i + j) / 2, k, rfl, by go_num, by omega, by omega, by omega, HS2, HB2⟩
        case measure => simp [intOf]; omega
    · have e1 : i = R := by
        have := hbs.out
        cases k with
        | zero => exact this
        | succ k => unfold bs at this; rw [if_neg hlt] at this; exact this
      clear hbs
      subst e1
      by_cases hn2 : i < n
      · have hb := hB.out
        obtain ⟨ad, ea, hx0, hx1, hx2⟩ := at_T45 HR.out (i : Int) (by omega) (by have := HN.out; omega)
        replace hx0 := (hb.cell (World.block_lt_of_cell? w _ hx0)).trans hx0
        replace hx1 := (hb.cell (World.block_lt_of_cell? w _ hx1)).trans hx1
        replace hx2 := (hb.cell (World.block_lt_of_cell? w _ hx2)).trans hx2
        simp only [Int.toNat_natCast] at hx0 hx1 hx2
        have HCALL := Lib.hid (HP.out _ (rd_T45 l (i : Int)) hb)
        clear hb
        have HBB : Hid (bsB cmp l i = (cmp (rd_T45 l (i : Int)) == 0)) := by
          have : i < l.length := by have := HN.out; omega
          unfold bsB; rw [decide_eq_true this]; rfl
        obtain ⟨x, hxx⟩ : ∃ x, rd_T45 l (i : Int) = x := ⟨_, rfl⟩
        rw [hxx] at hx0 hx1 hx2 HCALL HBB
        clear hxx
        cases ea
        go_wp2_with fail
        refine HCALL.out.mono ?_
        rintro e w' ⟨rfl, hb2⟩
        have HB2 := Lib.hid (hB.out.trans (hb2.mono hB.out.size))
        clear hb2 HCALL
        go_wp2_with fail
        go_ret2
        exact ⟨by rw [HBB.out]; rfl, HB2.out⟩
      · have HBB : Hid (bsB cmp l i = false) := by
          have : ¬ i < l.length := by have := HN.out; omega
          unfold bsB; rw [decide_eq_false this]; rfl
        go_wp2_with fail
        go_ret2
        exact ⟨by rw [HBB.out]; rfl, hB.out⟩
end Go.Proofs.Ytinjajpnbbknnaa.BRange
