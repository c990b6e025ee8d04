/- The walk of part.rising at rows of api.Turn. -/
import Derived.Test.YtinjajpnbbknnaaPathB
import Derived.WalkLawsBesides
import Derived.Lib.Hide
import Derived.Deep.LoopGhost
import Derived.Deep.RegionHeld3
import Derived.Deep.QuietTactic
import Derived.BigQuiet
import Derived.IntWalk
namespace Go.Proofs.Ytinjajpnbbknnaa.RTurn
open Go Go.RowKit Go.Proofs.Ytinjajpnbbknnaa.PathF Go.Proofs.Ytinjajpnbbknnaa.Q Go.Proofs.YtinjajpnbbknnaaW.PrintWords Go.Proofs.YtinjajpnbbknnaaW.PrintLast Go.Proofs.YtinjajpnbbknnaaW.PrintMore
set_option linter.unusedVariables false

theorem cell_keep {W w' : World} (hb : Below W.heap.size W w') {p : Addr} {v : Value} (h : W.cell? p = some v) : w'.cell? p = some v := (hb.cell (World.block_lt_of_cell? W _ h)).trans h
/-- does the i-th one stand behind the one ahead of it -/
def upB (l : List S59) (i : Nat) : Bool := decide (i = 0) || lessB (rd_T59 l ((i : Int) - 1)).f0 (rd_T59 l (i : Int)).f0
def risB (l : List S59) : Bool := (List.range l.length).all (upB l)
theorem ris_no {l : List S59} {i : Nat} (hi : i < l.length) (h : upB l i = false) : risB l = false := by
  unfold risB
  rw [List.all_eq_false]
  exact ⟨i, List.mem_range.2 hi, by rw [h]; simp⟩
theorem ris_yes {l : List S59} (h : ∀ i, i < l.length → upB l i = true) : risB l = true := by
  unfold risB
  rw [List.all_eq_true]
  exact fun i hi => h i (List.mem_range.1 hi)
def By (g : Nat) : Prop := ∀ (W : World) (x : S59), Calls Try.prog g #[.agg #[.string x.f0, .int .i64 x.f1]] W fun e w' => e = .returned (.string x.f0) ∧ Below W.heap.size W w'
set_option maxHeartbeats 4000000 in
set_option maxRecDepth 100000 in
theorem rising_calls (g : Nat) (eg : ∀ args w, (callFunc g args).run Try.prog w = .ok (.enter g args) w) (hby : By g) (A : Option Addr) (c : Nat) (l : List S59) (w : World) (hr : Kd.C k59 w A l.length l) (hl : l.length ≤ 4611686018427387904) :
    Calls Try.prog 67 #[.slice A l.length c, .func (.func g) #[] #[]] w fun e w' => e = .returned (.bool (risB l)) ∧ Below w.heap.size w w' := by
  have HR := Lib.hid hr
  have HBY := Lib.hid hby
  clear hr hby
  obtain ⟨n, hn⟩ : ∃ n, l.length = n := ⟨_, rfl⟩
  have HN := Lib.hid hn
  rw [hn] at hl ⊢
  clear hn
  go_enter Try.func67, Try.ntmps67
  go_wp2_with fail
  go_loopg [8] n (fun gg s8 wr => ∃ i : Nat, i ≤ n ∧ n - i ≤ gg ∧ s8 = .int .i64 i ∧ Hid (Below w.heap.size w wr) ∧ Hid (∀ j : Nat, j < i → upB l j = true))
  case atStart => exact ⟨0, Nat.zero_le _, by omega, rfl, Below.refl _ w, fun j hj => absurd hj (Nat.not_lt_zero _)⟩
  case round =>
    obtain ⟨i, hi, hg, rfl, hB, hA⟩ := hrel
    by_cases hlt : i < n
    · have hltz : (i : Int) < (n : Int) := by omega
      by_cases h0 : i = 0
      · have hz : decide (0 < (i : Int)) = false := decide_eq_false (by omega)
        have hU : Hid (∀ j : Nat, j < i + 1 → upB l j = true) := fun j hj => by
          have : j = 0 := by omega
          subst this; rfl
        subst h0
        go_wp2_with fail
        go_quiet (fail)
        go_wp2_with fail
        go_roundg (n - (0 + 1))
        case measure => omega
        case rel => exact ⟨1, by omega, by omega, by go_num, pw_below_drewN hB.out _, hU⟩
      · have hz : decide (0 < (i : Int)) = true := decide_eq_true (by omega)
        have hz2 : 0 < i := by omega
        have hz3 : decide (0 < i) = true := decide_eq_true hz2
        have hin : i < l.length := by have := HN.out; omega
        obtain ⟨ad, ea, hx0, hx1⟩ := at_T59 HR.out (i : Int) (by omega) (by omega)
        obtain ⟨ad2, ea2, hy0, hy1⟩ := at_T59 HR.out ((i : Int) - 1) (by omega) (by omega)
        rw [ea] at ea2
        obtain rfl := Option.some.inj ea2
        cases ea
        have hU : ∀ b, upB l i = b → Hid (lessB (rd_T59 l ((i : Int) - 1)).f0 (rd_T59 l (i : Int)).f0 = b) := fun b h => by
          unfold upB at h
          rw [decide_eq_false h0, Bool.false_or] at h
          exact h
        simp only [Int.toNat_natCast] at hx0 hx1
        rw [show ((i : Int) - 1).toNat = i - 1 by omega] at hy0 hy1
        obtain ⟨x, hxx⟩ : ∃ x, rd_T59 l (i : Int) = x := ⟨_, rfl⟩
        obtain ⟨y, hyy⟩ : ∃ y, rd_T59 l ((i : Int) - 1) = y := ⟨_, rfl⟩
        rw [hxx] at hx0 hx1
        rw [hyy] at hy0 hy1
        rw [hxx, hyy] at hU
        clear hxx hyy
        replace hx0 := (hB.out.cell (World.block_lt_of_cell? w _ hx0)).trans hx0
        replace hx1 := (hB.out.cell (World.block_lt_of_cell? w _ hx1)).trans hx1
        replace hy0 := (hB.out.cell (World.block_lt_of_cell? w _ hy0)).trans hy0
        replace hy1 := (hB.out.cell (World.block_lt_of_cell? w _ hy1)).trans hy1
        have hw1 : IntKind.i64.wrap ((i : Int) - 1) = (i : Int) - 1 := IntWalk.i64_in _ (by omega)
        have hm0 : 0 ≤ (i : Int) - 1 := by omega
        have hm1 : (i : Int) - 1 < (n : Int) := by omega
        have hmt : ((i : Int) - 1).toNat = i - 1 := by omega
        have hi0 : 0 ≤ (i : Int) := by omega
        have hm2 : 1 ≤ (i : Int) := by omega
        have hm3 : (i : Int) ≤ (n : Int) := by omega
        have hm4 : 1 ≤ i := by omega
        go_wp2_with fail
        cases hb : upB l i with
        | true =>
          have hlb := hU true hb
          have hle : Op.bytesLess y.f0.toList x.f0.toList = true := hlb.out
          have hA2 : Hid (∀ j : Nat, j < i + 1 → upB l j = true) := fun j hj => by
            by_cases e : j = i
            · rw [e]; exact hb
            · exact hA.out j (by omega)
          clear hb hU hlb
          go_region_held3 (fun w' => w'.cell? (ad.add (i * 2)) = some (.string x.f0) ∧ w'.cell? ⟨(ad.add (i * 2)).block, (ad.add (i * 2)).off + 1, none⟩ = some (.int .i64 x.f1) ∧ w'.cell? (ad.add ((i - 1) * 2)) = some (.string y.f0) ∧ w'.cell? ⟨(ad.add ((i - 1) * 2)).block, (ad.add ((i - 1) * 2)).off + 1, none⟩ = some (.int .i64 y.f1) ∧ Hid (Below w.heap.size w w'))
            (first | exact ⟨by go_keep, by go_keep, by go_keep, by go_keep, Lib.hid (below_drew1 hB.out)⟩ | (go_split_ands; exact ⟨cell_keep hb (by assumption), cell_keep hb (by assumption), cell_keep hb (by assumption), cell_keep hb (by assumption), Lib.hid (below_step (Hid.out (by assumption)) hb)⟩))
            (first | (refine (HBY.out _ _).mono ?_; rintro e w' ⟨rfl, hb⟩))
          go_split_ands
          go_wp2_with fail
          go_roundg (n - (i + 1))
          case measure => omega
          case rel => exact ⟨i + 1, by omega, by omega, by go_num, by assumption, hA2⟩
        | false =>
          have hlb := hU false hb
          have hle : Op.bytesLess y.f0.toList x.f0.toList = false := hlb.out
          have hRB : Hid (risB l = false) := ris_no hin hb
          clear hb hU hlb
          go_region_held3 (fun w' => w'.cell? (ad.add (i * 2)) = some (.string x.f0) ∧ w'.cell? ⟨(ad.add (i * 2)).block, (ad.add (i * 2)).off + 1, none⟩ = some (.int .i64 x.f1) ∧ w'.cell? (ad.add ((i - 1) * 2)) = some (.string y.f0) ∧ w'.cell? ⟨(ad.add ((i - 1) * 2)).block, (ad.add ((i - 1) * 2)).off + 1, none⟩ = some (.int .i64 y.f1) ∧ Hid (Below w.heap.size w w'))
            (first | exact ⟨by go_keep, by go_keep, by go_keep, by go_keep, Lib.hid (below_drew1 hB.out)⟩ | (go_split_ands; exact ⟨cell_keep hb (by assumption), cell_keep hb (by assumption), cell_keep hb (by assumption), cell_keep hb (by assumption), Lib.hid (below_step (Hid.out (by assumption)) hb)⟩))
            (first | (refine (HBY.out _ _).mono ?_; rintro e w' ⟨rfl, hb⟩))
          go_split_ands
          go_wp2_with fail
          go_ret
          exact ⟨by rw [hRB.out]; rfl, Hid.out (by assumption)⟩
    · have hltz : ¬ (i : Int) < (n : Int) := by omega
      have : i = n := by omega
      subst this
      go_wp2_with fail
      go_ret
      exact ⟨by rw [ris_yes (fun j hj => hA.out j (by have := HN.out; omega))]; rfl, hB.out⟩
end Go.Proofs.Ytinjajpnbbknnaa.RTurn
