/- The walk of slices.Clone at rows of api.Hold. -/
import Derived.Test.YtclomgbiomojjaaQx0
import Derived.WalkLawsBesides
import Derived.Lib.Hide
import Derived.Deep.LoopGhost
import Derived.WalkSpells
/- The walk of slices.BinarySearchFunc at rows of api.Hold, for any function value that compares and lays no more than new memory. -/
namespace Go.Proofs.Ytclomgbiomojjaa.BHold
open Go Go.RowKit Go.Proofs.Ytclomgbiomojjaa.Q Go.Proofs.YtclomgbiomojjaaW.PrintWords Go.Proofs.YtclomgbiomojjaaW.PrintLast Go.Proofs.YtclomgbiomojjaaW.PrintMore

/-- the search: the first place in [i, j) from which on nothing compares as less, as the halving finds it -/
def bs (cmp : S34 → Int) (l : List S34) : Nat → Nat → Nat → Nat
  | 0, i, _ => i
  | k + 1, i, j => if i < j then (if cmp (rd_T34 l ((i + j) / 2 : Nat)) < 0 then bs cmp l k ((i + j) / 2 + 1) j else bs cmp l k i ((i + j) / 2)) else i
def CmpBelow (g : Nat) (lb : Array Value) (p : ByteArray) (cmp : S34 → Int) (w : World) : Prop :=
  ∀ (W : World) (x : S34), Below w.heap.size w W → Calls Try.prog g (#[.agg #[.string x.f0, .int .i64 x.f1, .int .i64 x.f2], .string p] ++ lb) W fun e w' => e = .returned (.int .i64 (cmp x)) ∧ Below W.heap.size W w'
def bsB (cmp : S34 → Int) (l : List S34) (i : Nat) : Bool := decide (i < l.length) && decide (cmp (rd_T34 l i) = 0)

set_option maxRecDepth 100000 in
theorem bs_calls (g : Nat) (lb : Array Value) (eg : ∀ args w, (callFunc g args).run Try.prog w = .ok (.enter g args) w) (p : ByteArray) (cmp : S34 → Int) (A : Option Addr) (c : Nat) (l : List S34) (w : World) (hp : CmpBelow g lb p cmp w)
    (hr : Kd.C k34 w A l.length l) (hl : l.length ≤ 4611686018427387904) :
    Calls Try.prog 30 #[.slice A l.length c, .string p, .func (.func g) #[] lb] w fun e w' => e = .returned (.tuple #[.int .i64 (bs cmp l l.length 0 l.length : Nat), .bool (bsB cmp l (bs cmp l l.length 0 l.length))]) ∧ Below w.heap.size w w' := by
  have HR := Lib.hid hr
  have HP := Lib.hid hp
  clear hr hp
  obtain ⟨n, hn⟩ : ∃ n, l.length = n := ⟨_, rfl⟩
  obtain ⟨R, hR⟩ : ∃ R, bs cmp l n 0 n = R := ⟨_, rfl⟩
  have HN := Lib.hid hn
  have HRR := Lib.hid hR
  have H0 : Hid (bs cmp l n 0 n = R) := HRR
  rw [hn] at hl ⊢
  rw [hR]
  clear hn hR
  go_enter Try.func30, Try.ntmps30
  go_wp2_with fail
  go_loopw [9, 10] (fun a b wr => ∃ i j k : Nat, a = .int .i64 i ∧ b = .int .i64 j ∧ i ≤ j ∧ j ≤ n ∧ j - i ≤ k ∧ Hid (bs cmp l k i j = R) ∧ Hid (Below w.heap.size w wr)) (fun a b _ => (intOf b).toNat - (intOf a).toNat)
  case atStart => exact ⟨0, n, n, rfl, rfl, by omega, by omega, by omega, H0, Below.refl _ _⟩
  case round =>
    obtain ⟨i, j, k, rfl, rfl, hij, hj, hk, hbs, hB⟩ := hrel
    clear H0
    by_cases hlt : i < j
    · obtain ⟨k, rfl⟩ : ∃ m, k = m + 1 := ⟨k - 1, by omega⟩
      have hbs2 := hbs.out
      unfold bs at hbs2
      rw [if_pos hlt] at hbs2
      have HS := Lib.hid hbs2
      have b1 : i ≤ (i + j) / 2 := by omega
      have b2 : (i + j) / 2 < j := by omega
      clear hbs hbs2
      have hb := hB.out
      obtain ⟨ad, ea, hx0, hx1, hx2⟩ := at_T34 HR.out (((i + j) / 2 : Nat) : Int) (by omega) (by have := HN.out; omega)
      replace hx0 := (hb.cell (World.block_lt_of_cell? w _ hx0)).trans hx0
      replace hx1 := (hb.cell (World.block_lt_of_cell? w _ hx1)).trans hx1
      replace hx2 := (hb.cell (World.block_lt_of_cell? w _ hx2)).trans hx2
      simp only [Int.toNat_natCast] at hx0 hx1 hx2
      have HCALL := Lib.hid (HP.out _ (rd_T34 l (((i + j) / 2 : Nat) : Int)) hb)
      clear hb
      obtain ⟨x, hxx⟩ : ∃ x, rd_T34 l (((i + j) / 2 : Nat) : Int) = x := ⟨_, rfl⟩
      rw [hxx] at hx0 hx1 hx2 HCALL HS
      clear hxx
      cases ea
      by_cases hc0 : cmp x < 0
      · have HS2 : Hid (bs cmp l k ((i + j) / 2 + 1) j = R) := by
          have := HS.out
          rw [if_pos hc0] at this
          exact this
        clear HS
        go_wp2_with fail
        refine HCALL.out.mono ?_
        rintro e w' ⟨rfl, hb2⟩
        have HB2 := Lib.hid (hB.out.trans (hb2.mono hB.out.size))
        clear hb2 HCALL
        go_wp2_with fail
        go_roundw
        case rel => exact ⟨(i + j) / 2 + 1, j, k, by go_num, rfl, by omega, by omega, by omega, HS2, HB2⟩
        case measure => simp [intOf]; omega
      · have HS2 : Hid (bs cmp l k i ((i + j) / 2) = R) := by
          have := HS.out
          rw [if_neg hc0] at this
          exact this
        clear HS
        go_wp2_with fail
        refine HCALL.out.mono ?_
        rintro e w' ⟨rfl, hb2⟩
        have HB2 := Lib.hid (hB.out.trans (hb2.mono hB.out.size))
        clear hb2 HCALL
        go_wp2_with fail
        go_roundw
        case rel => exact ⟨i, (i + j) / 2, k, rfl, by go_num, by omega, by omega, by omega, HS2, HB2⟩
        case measure => simp [intOf]; omega
    · have e1 : i = R := by
        have := hbs.out
        cases k with
        | zero => exact this
        | succ k => unfold bs at this; rw [if_neg hlt] at this; exact this
      clear hbs
      subst e1
      by_cases hn2 : i < n
      · have hb := hB.out
        obtain ⟨ad, ea, hx0, hx1, hx2⟩ := at_T34 HR.out (i : Int) (by omega) (by have := HN.out; omega)
        replace hx0 := (hb.cell (World.block_lt_of_cell? w _ hx0)).trans hx0
        replace hx1 := (hb.cell (World.block_lt_of_cell? w _ hx1)).trans hx1
        replace hx2 := (hb.cell (World.block_lt_of_cell? w _ hx2)).trans hx2
        simp only [Int.toNat_natCast] at hx0 hx1 hx2
        have HCALL := Lib.hid (HP.out _ (rd_T34 l (i : Int)) hb)
        clear hb
        have HBB : Hid (bsB cmp l i = (cmp (rd_T34 l (i : Int)) == 0)) := by
          have : i < l.length := by have := HN.out; omega
          unfold bsB; rw [decide_eq_true this]; rfl
        obtain ⟨x, hxx⟩ : ∃ x, rd_T34 l (i : Int) = x := ⟨_, rfl⟩
        rw [hxx] at hx0 hx1 hx2 HCALL HBB
        clear hxx
        cases ea
        go_wp2_with fail
        refine HCALL.out.mono ?_
        rintro e w' ⟨rfl, hb2⟩
        have HB2 := Lib.hid (hB.out.trans (hb2.mono hB.out.size))
        clear hb2 HCALL
        go_wp2_with fail
        go_ret2
        exact ⟨by rw [HBB.out]; rfl, HB2.out⟩
      · have HBB : Hid (bsB cmp l i = false) := by
          have : ¬ i < l.length := by have := HN.out; omega
          unfold bsB; rw [decide_eq_false this]; rfl
        go_wp2_with fail
        go_ret2
        exact ⟨by rw [HBB.out]; rfl, hB.out⟩
end Go.Proofs.Ytclomgbiomojjaa.BHold
namespace Go.Proofs.Ytclomgbiomojjaa.CHold
open Go Go.RowKit Go.Proofs.Ytclomgbiomojjaa.Q Go.Proofs.YtclomgbiomojjaaW.PrintWords Go.Proofs.YtclomgbiomojjaaW.PrintLast Go.Proofs.YtclomgbiomojjaaW.PrintMore

theorem info_e : (Try.prog.info? 34).map (fun i => (i.zero, i.size, i.bytes)) = some (some (.agg #[.string ⟨#[]⟩, .int .i64 0, .int .i64 0]), 3, 32) := by kernel_rfl
theorem made {w : World} {base : Nat} {ok : Nat → Prop} {x : S34} {cs : List Value} (h : k34.K w x cs) : k34.M w base ok x cs := by
  obtain rfl := k34_open h
  exact k34_mkM w base ok x
theorem clone_calls (A : Option Addr) (c : Nat) (l : List S34) (w : World) (hr : Kd.C k34 w A l.length l) (hl : l.length * 32 ≤ 140737488355328) :
    Calls Try.prog 29 #[.slice A l.length c] w fun e w' => ∃ v : Value, e = .returned v ∧ Kd.R k34 34 w' w.heap.size (fun _ => True) v l ∧ Below w.heap.size w w' := by
  have he := fun W a n c => Lib.run_eql_slice_nil (P := Try.prog) W 22 34 a n c 0 0 Try.underlying22
  cases A with
  | none =>
    have hz : l = [] := by
      cases l with
      | nil => rfl
      | cons x r => obtain ⟨ad, _, h, _⟩ := Kd.C_get hr z34 0 (by omega) (by simp); cases h
    subst hz
    go_enter Try.func29, Try.ntmps29
    go_wp2_with fail
    go_ret
    exact ⟨_, rfl, Kd.R_nil _ _ _ _ _, Below.refl _ _⟩
  | some ad =>
    have HR := Lib.hid hr
    have HB := Lib.hid (Below.refl w.heap.size w)
    clear hr
    go_enter Try.func29, Try.ntmps29
    go_wp2_with (first | ((with_reducible refine gate_dst (N := 5) rfl ?_); refine Kd.R_lit k34 _ 34 ?hg (N := 5) ?hd (xs := ([] : List S34)) (inner := []) (ok := fun _ => True) (okp := fun _ => True) ?hr ?hp (fun _ hk => hk) trivial (Below.refl _ _) (Nat.le_refl _) (by simp) ?_; (case hd => rfl); (case hg => rfl); (case hr => first | (go_simp; done) | (go_simp; rfl)); (case hp => exact (Reps.none _ _)); intro v1 w1 ho1 hb1 hg_ hnew_; clear hg_ hnew_; have HO1 := Lib.hid ho1; have HB1 := Lib.hid hb1; clear ho1 hb1) | ((with_reducible refine gate_builtin (b := .append) (xs := #[.tmp 5, .tmp 6]) rfl ?_); at_builtin; refine Kd.R_append_rows k34 (Rr := k34.K w1) (w0 := w) w.heap.size rfl (.tmp 5) (.tmp 6) 22 34 (.agg #[.string ⟨#[]⟩, .int .i64 0, .int .i64 0]) 32 rfl Try.underlying22 info_e rfl (by decide) (by omega) v1 [] l (some ad) l.length c (fun _ => True) (fun _ => False) rfl rfl ?aO ?aR ?aK (fun _ hk => hk.elim) (fun _ _ => trivial) ?aB ?aS ?aL ?_; (case aO => exact HO1.out); (case aR => exact Kd.C_below HR.out HB1.out); (case aK => exact fun _ _ h => made h); (case aB => exact HB1.out); (case aS => exact HB1.out.size); (case aL => simpa using hl); intro v2 w2 ho2 hb2 hg2 hat2; have HO2 := Lib.hid ho2; have HB2 := Lib.hid hb2; clear ho2 hb2 hg2 hat2))
    go_ret
    exact ⟨_, rfl, by simpa using HO2.out, HB2.out⟩
end Go.Proofs.Ytclomgbiomojjaa.CHold
