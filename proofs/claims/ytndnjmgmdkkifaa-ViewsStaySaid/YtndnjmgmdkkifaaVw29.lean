/- The walks of begins and great; moves in memory. -/
import Derived.Test.YtndnjmgmdkkifaaQx0
namespace Go.Proofs.Ytndnjmgmdkkifaa.Q
open Go Go.RowKit Go.Proofs.YtndnjmgmdkkifaaW.PrintWords
structure S55 where
  f0 : Int
  f1 : Int
  f2 : Int
  f3 : Int
  f4 : ByteArray
  f5 : Bool
def k55 : Kd S55 := Kd.iso (Kd.pair (Kd.int .i64) (Kd.pair (Kd.int .i64) (Kd.pair (Kd.int .i64) (Kd.pair (Kd.int .i64) (Kd.pair Kd.string Kd.bool))))) (fun x : S55 => (x.f0, x.f1, x.f2, x.f3, x.f4, x.f5))
theorem k55_open {w : World} {x : S55} {cs : List Value} (h : k55.K w x cs) : cs = [.int .i64 x.f0, .int .i64 x.f1, .int .i64 x.f2, .int .i64 x.f3, .string x.f4, .bool x.f5] := by
  simp only [k55, Kd.iso, Kd.pair] at h
  obtain ⟨e0, r0, rfl, g0, h0⟩ := h
  obtain rfl := g0
  obtain ⟨e1, r1, rfl, g1, h1⟩ := h0
  obtain rfl := g1
  obtain ⟨e2, r2, rfl, g2, h2⟩ := h1
  obtain rfl := g2
  obtain ⟨e3, r3, rfl, g3, h3⟩ := h2
  obtain rfl := g3
  obtain ⟨e4, r4, rfl, g4, h4⟩ := h3
  obtain rfl := g4
  obtain rfl := h4
  rfl
end Go.Proofs.Ytndnjmgmdkkifaa.Q
namespace Go.Proofs.Ytndnjmgmdkkifaa.Vw1
open Go Go.RowKit Go.Maps Go.Proofs Go.Proofs.Ytndnjmgmdkkifaa.New Go.Proofs.Ytndnjmgmdkkifaa.Vw Go.Proofs.Ytndnjmgmdkkifaa.Vw0 Go.Proofs.Ytndnjmgmdkkifaa.Q Go.Proofs.YtndnjmgmdkkifaaW.PrintWords Go.Proofs.YtndnjmgmdkkifaaW.PrintLast Go.Proofs.YtndnjmgmdkkifaaW.PrintMore
set_option linter.unusedVariables false
set_option linter.unusedSimpArgs false

theorem C_take' {W : World} {A : Option Addr} {l : Log} (h : Kd.C Kd.string W A l.length l) (m : Nat) (hm : m ≤ l.length) : Kd.C Kd.string W A (l.take m).length (l.take m) := by
  refine ⟨rfl, by rw [List.length_take]; have := h.2.1; omega, fun hp => ?_⟩
  rw [List.length_take] at hp
  obtain ⟨ad, hA, hc⟩ := h.2.2 (by omega)
  refine ⟨ad, hA, fun j q hj => hc j q ?_⟩
  rw [List.getElem?_take] at hj
  split at hj
  · exact hj
  · cases hj
def begB (a b : Log) : Bool := decide (a.length ≤ b.length) && eqL a (b.take a.length)
theorem begB_iff (a b : Log) : begB a b = true ↔ a <+: b := by
  unfold begB
  simp only [Bool.and_eq_true, decide_eq_true_eq, eqL_iff]
  constructor
  · intro ⟨h, k⟩
    rw [k]
    exact List.take_prefix _ _
  · intro h
    exact ⟨h.length_le, List.prefix_iff_eq_take.1 h⟩
set_option maxHeartbeats 4000000 in
set_option maxRecDepth 100000 in
theorem begins_calls {W : World} (A1 : Option Addr) (c1 : Nat) (a : Log) (A2 : Option Addr) (c2 : Nat) (b : Log) (h1 : Kd.C Kd.string W A1 a.length a) (h2 : Kd.C Kd.string W A2 b.length b) (hc2 : b.length ≤ c2) (hc2m : c2 ≤ 9223372036854775807) (ha : a.length ≤ 1000000) (hb : b.length ≤ 1000000) :
    Calls Try.prog 31 #[.slice A1 a.length c1, .slice A2 b.length c2] W fun e w' => e = .returned (.bool (begB a b)) ∧ ∃ m, w' = W.drewN m := by
  have HE := Lib.hid (show begB a b = (decide (a.length ≤ b.length) && eqL a (b.take a.length)) from rfl)
  by_cases c : a.length ≤ b.length
  · have hs := same_calls A1 c1 a A2 c2 (b.take a.length) h1 (C_take' h2 a.length c) ha (by rw [List.length_take]; omega)
    rw [show (b.take a.length).length = a.length by rw [List.length_take]; omega] at hs
    have HS := Lib.hid hs
    have HE2 := Lib.hid (HE.out.trans (by rw [decide_eq_true c, Bool.true_and]))
    have hz : decide ((a.length : Int) ≤ (b.length : Int)) = true := decide_eq_true (by omega)
    have hcz : a.length ≤ c2 := by omega
    clear h1 h2 hs HE
    go_enter Try.func31, Try.ntmps31
    go_wp2_with (go_at_call 33; refine HS.out.mono ?_; rintro e w2 ⟨rfl, ⟨m, rfl⟩⟩)
    go_ret
    exact ⟨by rw [HE2.out]; rfl, m, rfl⟩
  · have HE2 := Lib.hid (HE.out.trans (by rw [decide_eq_false c, Bool.false_and]))
    have hz : decide ((a.length : Int) ≤ (b.length : Int)) = false := decide_eq_false (by omega)
    clear h1 h2 HE
    go_enter Try.func31, Try.ntmps31
    go_wp2_with fail
    go_ret
    exact ⟨by rw [HE2.out]; rfl, 0, rfl⟩
/-! ### moves -/
def mv0 : S55 := ⟨0, 0, 0, 0, ByteArray.empty, false⟩
theorem addz (a : Addr) (j : Nat) (h : j ≠ 0) : a.add j = ⟨a.block, a.off + j, none⟩ := by unfold Addr.add; rw [if_neg h]
theorem mv_at {W wr : World} {A : Option Addr} {ms : List S55} (h : Kd.C k55 W A ms.length ms) (hb : Below W.heap.size W wr) (i : Nat) (hi : i < ms.length) :
    ∃ ad : Addr, A = some ad ∧ wr.cell? (ad.add (i * 6)) = some (.int .i64 ms[i].f0) ∧ wr.cell? ⟨(ad.add (i * 6)).block, (ad.add (i * 6)).off + 1, none⟩ = some (.int .i64 ms[i].f1) ∧ wr.cell? ⟨(ad.add (i * 6)).block, (ad.add (i * 6)).off + 2, none⟩ = some (.int .i64 ms[i].f2) ∧
      wr.cell? ⟨(ad.add (i * 6)).block, (ad.add (i * 6)).off + 3, none⟩ = some (.int .i64 ms[i].f3) ∧ wr.cell? ⟨(ad.add (i * 6)).block, (ad.add (i * 6)).off + 4, none⟩ = some (.string ms[i].f4) ∧ wr.cell? ⟨(ad.add (i * 6)).block, (ad.add (i * 6)).off + 5, none⟩ = some (.bool ms[i].f5) := by
  obtain ⟨ad, cc, ea, _, hK, hcc⟩ := Kd.C_get h mv0 (i : Int) (by omega) (by omega)
  rw [Int.toNat_natCast, List.getD_eq_getElem?_getD, List.getElem?_eq_getElem hi] at hK
  obtain rfl := k55_open hK
  rw [Int.toNat_natCast] at hcc
  have key : ∀ j u, _ → wr.cell? (ad.add (i * 6 + j)) = some u := fun j u hu => (hb.cell (World.block_lt_of_cell? W _ (hcc j u hu))).trans (hcc j u hu)
  have go : ∀ j, j ≠ 0 → ad.add (i * 6 + j) = ⟨(ad.add (i * 6)).block, (ad.add (i * 6)).off + j, none⟩ := fun j hj => by
    rw [← add_add]
    exact addz _ j hj
  exact ⟨ad, ea, key 0 _ rfl, (go 1 (by decide)) ▸ key 1 _ rfl, (go 2 (by decide)) ▸ key 2 _ rfl, (go 3 (by decide)) ▸ key 3 _ rfl, (go 4 (by decide)) ▸ key 4 _ rfl, (go 5 (by decide)) ▸ key 5 _ rfl⟩
def minsM : List S55 → Nat
  | [] => 0
  | s :: l => min s.f4.size 4000 + minsM l
def greatM (l : List S55) : Bool := decide (4000 ≤ l.length + minsM l) || decide (600 < l.length)
theorem minsM_app : ∀ (a b : List S55), minsM (a ++ b) = minsM a + minsM b
  | [], b => by simp [minsM]
  | x :: a, b => by
    have := minsM_app a b
    simp only [List.cons_append, minsM, this]
    omega
theorem minsM_take (l : List S55) (i : Nat) (h : i < l.length) : minsM (l.take (i + 1)) = minsM (l.take i) + min l[i].f4.size 4000 := by
  rw [List.take_succ_eq_append_getElem h, minsM_app]
  simp [minsM]
theorem minsM_le (l : List S55) (i : Nat) : minsM (l.take i) ≤ minsM l := by
  have := minsM_app (l.take i) (l.drop i)
  rw [List.take_append_drop] at this
  omega
theorem greatM_no {l : List S55} (h : greatM l = false) : l.length ≤ 600 ∧ ∀ s ∈ l, s.f4.size ≤ 4000 := by
  unfold greatM at h
  simp only [Bool.or_eq_false_iff, decide_eq_false_iff_not] at h
  refine ⟨by omega, fun s hs => ?_⟩
  have key : ∀ (l : List S55), s ∈ l → min s.f4.size 4000 ≤ minsM l := fun l => by
    induction l with
    | nil => intro h; cases h
    | cons x l ih =>
      intro h
      rcases List.mem_cons.1 h with rfl | h
      · simp only [minsM]; omega
      · have := ih h
        simp only [minsM]; omega
  have := key l hs
  have : 0 < l.length := List.length_pos_of_mem hs
  omega
set_option maxHeartbeats 4000000 in
set_option maxRecDepth 100000 in
theorem greatM_calls {W : World} (A : Option Addr) (c : Nat) (l : List S55) (h : Kd.C k55 W A l.length l) (hl : l.length ≤ 100000000000000) :
    Calls Try.prog 29 #[.slice A l.length c] W fun e w' => e = .returned (.bool (greatM l)) ∧ w' = W := by
  have HR := Lib.hid h
  clear h
  go_enter Try.func29, Try.ntmps29
  go_wp2_with fail
  go_loopg [3, 4] (l.length) (fun gg s3 s4 wr => ∃ i n : Nat, i ≤ l.length ∧ l.length - i ≤ gg ∧ s4 = .int .i64 i ∧ s3 = .int .i64 n ∧ n ≤ 100000000060000 ∧ Hid (n = l.length + minsM (l.take i)) ∧ wr = W)
  case atStart => exact ⟨0, l.length, Nat.zero_le _, by omega, rfl, rfl, by omega, (show Hid _ from by simp [Hid, minsM]), rfl⟩
  case round =>
    obtain ⟨i, n, hi, hg, rfl, rfl, hn, hE, hwr⟩ := hrel
    subst hwr
    by_cases hlt : i < l.length
    · have hltz : decide ((i : Int) < (l.length : Int)) = true := decide_eq_true (by omega)
      by_cases hn2 : n < 4000
      · have hnz : decide ((n : Int) < 4000) = true := decide_eq_true (by omega)
        have hltq : (i : Int) < (l.length : Int) := by omega
        obtain ⟨ad, ea, x0, x1, x2, x3, x4, x5⟩ := mv_at HR.out (Below.refl _ _) i hlt
        have hm := minsM_take l i hlt
        obtain ⟨x, hxx⟩ : ∃ x, l[i] = x := ⟨_, rfl⟩
        rw [hxx] at x0 x1 x2 x3 x4 x5 hm
        have HD := Lib.hid (show n + min x.f4.size 4000 = l.length + minsM (l.take (i + 1)) by rw [hm, hE.out]; omega)
        clear hm hxx x0 x1 x2 x3 x5
        cases ea
        go_wp2_with fail
        go_roundg (l.length - (i + 1))
        case measure => omega
        case rel => exact ⟨i + 1, n + min x.f4.size 4000, by omega, by omega, by go_num, by go_num, by omega, HD.out, rfl⟩
      · have hnz : decide ((n : Int) < 4000) = false := decide_eq_false (by omega)
        have hnz2 : decide ((n : Int) ≥ 4000) = true := decide_eq_true (by omega)
        have HD := Lib.hid (show greatM l = true by
          unfold greatM
          have := minsM_le l i
          have := hE.out
          rw [decide_eq_true (by omega), Bool.true_or])
        go_wp2_with fail
        go_ret
        exact ⟨by rw [HD.out]; rfl, rfl⟩
    · have hltz : decide ((i : Int) < (l.length : Int)) = false := decide_eq_false (by omega)
      have HD := Lib.hid (show greatM l = (decide ((n : Int) ≥ 4000) || decide ((l.length : Int) > 600)) by
        unfold greatM
        have := hE.out
        rw [List.take_of_length_le (by omega)] at this
        rw [Bool.eq_iff_iff]
        simp
        omega)
      by_cases c1 : n ≥ 4000
      · have hnz2 : decide ((n : Int) ≥ 4000) = true := decide_eq_true (by omega)
        go_wp2_with fail
        go_ret
        exact ⟨by rw [HD.out, hnz2]; rfl, rfl⟩
      · have hnz2 : decide ((n : Int) ≥ 4000) = false := decide_eq_false (by omega)
        go_wp2_with fail
        go_ret
        exact ⟨by rw [HD.out, hnz2]; rfl, rfl⟩
end Go.Proofs.Ytndnjmgmdkkifaa.Vw1
