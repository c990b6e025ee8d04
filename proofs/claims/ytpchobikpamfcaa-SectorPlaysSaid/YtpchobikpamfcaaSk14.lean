/- What the laws of chapter 03 share: a call out of a row of calls; Great; strings of bytes. -/
import Derived.Test.YtpchobikpamfcaaQx0
namespace Go.Proofs.Ytpchobikpamfcaa.Sk
open Go Go.RowKit Go.Maps Go.Proofs Go.Proofs.Ytpchobikpamfcaa.Q Go.Proofs.YtpchobikpamfcaaW.PrintWords Go.Proofs.YtpchobikpamfcaaW.PrintLast Go.Proofs.YtpchobikpamfcaaW.PrintMore
set_option linter.unusedVariables false
set_option linter.unusedSimpArgs false

abbrev Op := S30
def op0 : Op := ⟨0, 0, [], 0, []⟩
theorem add_add2 (a : Addr) (i j : Nat) : (a.add i).add j = a.add (i + j) := by
  unfold Addr.add
  split
  · next e => subst e; simp
  · next e =>
    split
    · next e2 => subst e2; simp [e]
    · next e2 => rw [if_neg (by omega)]; simp [Nat.add_assoc]
theorem op_at {W wr : World} {A : Option Addr} {ops : List Op} (h : Kd.C k30 W A ops.length ops) (hb : Below W.heap.size W wr) (i : Nat) (hi : i < ops.length) :
    ∃ (ad : Addr) (A2 : Option Addr) (c2 : Nat) (A4 : Option Addr) (c4 : Nat), A = some ad ∧
      wr.cell? (ad.add (i * 5)) = some (.int .i64 ops[i].f0) ∧
      wr.cell? ⟨(ad.add (i * 5)).block, (ad.add (i * 5)).off + 1, none⟩ = some (.int .i64 ops[i].f1) ∧
      wr.cell? ⟨(ad.add (i * 5)).block, (ad.add (i * 5)).off + 2, none⟩ = some (.slice A2 ops[i].f2.length c2) ∧
      wr.cell? ⟨(ad.add (i * 5)).block, (ad.add (i * 5)).off + 3, none⟩ = some (.int .i64 ops[i].f3) ∧
      wr.cell? ⟨(ad.add (i * 5)).block, (ad.add (i * 5)).off + 4, none⟩ = some (.slice A4 ops[i].f4.length c4) ∧
      CB W A2 ops[i].f2.length ops[i].f2 ∧ CBool W A4 ops[i].f4.length ops[i].f4 := by
  obtain ⟨ad, cc, ea, _, hK, hcc⟩ := Kd.C_get h op0 (i : Int) (by omega) (by omega)
  rw [Int.toNat_natCast, List.getD_eq_getElem?_getD, List.getElem?_eq_getElem hi] at hK
  obtain ⟨A2, c2, A4, c4, rfl, _, hC2, _, hC4⟩ := k30_open hK
  rw [Int.toNat_natCast] at hcc
  have key : ∀ j u, _ → wr.cell? (ad.add (i * 5 + j)) = some u := fun j u hu => (hb.cell (World.block_lt_of_cell? W _ (hcc j u hu))).trans (hcc j u hu)
  have go : ∀ j, j ≠ 0 → ad.add (i * 5 + j) = ⟨(ad.add (i * 5)).block, (ad.add (i * 5)).off + j, none⟩ := fun j hj => by
    rw [← add_add2]
    exact add_ne' _ j hj
  exact ⟨ad, A2, c2, A4, c4, ea, key 0 _ rfl, (go 1 (by decide)) ▸ key 1 _ rfl, (go 2 (by decide)) ▸ key 2 _ rfl, (go 3 (by decide)) ▸ key 3 _ rfl, (go 4 (by decide)) ▸ key 4 _ rfl, hC2, hC4⟩
/-! ### Great -/
def mins : List Op → Nat
  | [] => 0
  | x :: l => min x.f2.length 20000 + x.f4.length + mins l
def greatB (l : List Op) : Bool := decide (l.length + mins l ≥ 20000) || decide (l.length > 300)
theorem mins_take : ∀ (l : List Op) (i : Nat) (h : i < l.length), mins (l.take (i + 1)) = mins (l.take i) + (min l[i].f2.length 20000 + l[i].f4.length)
  | [], i, h => absurd h (Nat.not_lt_zero _)
  | x :: l, 0, h => by simp [mins]
  | x :: l, i + 1, h => by
    have := mins_take l i (by simpa using h)
    simp only [List.take_succ_cons, mins, List.getElem_cons_succ, this]
    omega
theorem mins_app : ∀ (a b : List Op), mins (a ++ b) = mins a + mins b
  | [], b => by simp [mins]
  | x :: a, b => by
    have := mins_app a b
    simp only [List.cons_append, mins, this]
    omega
theorem mins_le (l : List Op) (i : Nat) : mins (l.take i) ≤ mins l := by
  have := mins_app (l.take i) (l.drop i)
  rw [List.take_append_drop] at this
  omega
theorem great_no {l : List Op} (h : greatB l = false) : l.length ≤ 300 := by
  unfold greatB at h
  simp only [Bool.or_eq_false_iff, decide_eq_false_iff_not] at h
  omega
/-- what the laws ask of a row of calls (the machine's bounds) -/
def OkOps (l : List Op) : Prop := l.length ≤ 200000000000000 ∧ ∀ o ∈ l, o.f2.length ≤ 200000000000000 ∧ o.f4.length ≤ 200000000000000 ∧ (∀ y ∈ o.f2, 0 ≤ y ∧ y ≤ 255) ∧ o.f3 ≤ 9223372036854775807
set_option maxHeartbeats 4000000 in
set_option maxRecDepth 100000 in
theorem great_calls {W wq : World} (A : Option Addr) (c : Nat) (l : List Op) (h : Kd.C k30 W A l.length l) (ho : OkOps l) (hb : Below W.heap.size W wq) :
    Calls Try.prog 11 #[.slice A l.length c] wq fun e w' => e = .returned (.bool (greatB l)) ∧ ∃ m, w' = wq.drewN m := by
  have HR := Lib.hid h
  have HO := Lib.hid ho
  have hl := ho.1
  have HB := Lib.hid hb
  clear h ho hb
  go_enter Try.func11, Try.ntmps11
  go_wp2_with fail
  go_loopg [3, 4] (l.length) (fun gg s3 s4 wr => ∃ i n : Nat, i ≤ l.length ∧ l.length - i ≤ gg ∧ s4 = .int .i64 i ∧ s3 = .int .i64 n ∧ n ≤ 500000000000000 ∧ Hid (n = l.length + mins (l.take i)) ∧ Hid (∃ q, wr = wq.drewN q))
  case atStart => exact ⟨0, l.length, Nat.zero_le _, by omega, rfl, rfl, by omega, (show Hid _ from by simp [Hid, mins]), Lib.hid ⟨0, rfl⟩⟩
  case round =>
    obtain ⟨i, n, hi, hg, rfl, rfl, hn, hE, HQ⟩ := hrel
    by_cases hlt : i < l.length
    · have hltz : decide ((i : Int) < (l.length : Int)) = true := decide_eq_true (by omega)
      by_cases hn2 : n < 20000
      · have hnz : decide ((n : Int) < 20000) = true := decide_eq_true (by omega)
        obtain ⟨ad, A2, c2, A4, c4, ea, x0, x1, x2, x3, x4, _, _⟩ := op_at (wr := wr) HR.out (by obtain ⟨q, hq⟩ := HQ.out; rw [hq]; exact below_drewN HB.out q) i hlt
        obtain ⟨_, o4, _, _⟩ := HO.out.2 _ (List.getElem_mem hlt)
        have hm := mins_take l i hlt
        clear x0 x1 x3
        obtain ⟨y2, hy2⟩ : ∃ y, l[i].f2.length = y := ⟨_, rfl⟩
        obtain ⟨y4, hy4⟩ : ∃ y, l[i].f4.length = y := ⟨_, rfl⟩
        rw [hy2] at x2 hm
        rw [hy4] at x4 hm o4
        have HD := Lib.hid (show n + min y2 20000 + y4 = l.length + mins (l.take (i + 1)) by rw [hm, hE.out]; omega)
        have z1 : min (y2 : Int) 20000 = ((min y2 20000 : Nat) : Int) := by omega
        have z2 : min y2 20000 ≤ 20000 := by omega
        obtain ⟨y, hy⟩ : ∃ y, min y2 20000 = y := ⟨_, rfl⟩
        rw [hy] at HD z1 z2
        clear hm hy hy2 hy4
        cases ea
        go_wp2_with fail
        go_quiet (fail)
        go_wp2_with fail
        go_roundg (l.length - (i + 1))
        case measure => omega
        case rel => exact ⟨i + 1, n + y + y4, by omega, by omega, by go_num, by go_num, by omega, HD.out, by obtain ⟨q, hq⟩ := HQ.out; rw [hq]; exact Lib.hid ⟨q + nq, World.drewN_drewN _ _ _⟩⟩
      · have hnz : decide ((n : Int) < 20000) = false := decide_eq_false (by omega)
        have hnz2 : decide ((n : Int) ≥ 20000) = true := decide_eq_true (by omega)
        have HD := Lib.hid (show greatB l = true by
          unfold greatB
          have := mins_le l i
          have := hE.out
          rw [decide_eq_true (by omega), Bool.true_or])
        go_wp2_with fail
        go_ret
        exact ⟨by rw [HD.out]; rfl, HQ.out⟩
    · have hltz : decide ((i : Int) < (l.length : Int)) = false := decide_eq_false (by omega)
      have HD := Lib.hid (show greatB l = (decide ((n : Int) ≥ 20000) || decide ((l.length : Int) > 300)) by
        unfold greatB
        have := hE.out
        rw [List.take_of_length_le (by omega)] at this
        rw [Bool.eq_iff_iff]
        simp
        omega)
      by_cases c1 : n ≥ 20000
      · have hnz2 : decide ((n : Int) ≥ 20000) = true := decide_eq_true (by omega)
        go_wp2_with fail
        go_ret
        exact ⟨by rw [HD.out, hnz2]; rfl, HQ.out⟩
      · have hnz2 : decide ((n : Int) ≥ 20000) = false := decide_eq_false (by omega)
        go_wp2_with fail
        go_ret
        exact ⟨by rw [HD.out, hnz2]; rfl, HQ.out⟩
/-! ### bytes as strings -/
theorem str_run {w : World} {A : Option Addr} {n c : Nat} {x : By} (h : CB w A n x) : (convert 22 9 (.slice A n c)).run Try.prog w = .ok (.string (strOfNums x)) w := Kd.C_string Try.underlying22 Try.underlying5 Try.underlying9 h
theorem u8info : ∃ i, Try.prog.info? 5 = some i ∧ i.size = 1 := by
  obtain ⟨i, hi, _, hz1, _⟩ := info_parts (show (Try.prog.info? 5).map (fun i => (i.zero, i.size, i.bytes)) = some (some (.int .u8 0), 1, 1) from by kernel_rfl)
  exact ⟨i, hi, hz1⟩
theorem reads_CB {w : World} {A : Option Addr} {n : Nat} {x : By} : ReadsInt w .u8 A n x ↔ CB w A n x :=
  ⟨fun h => Kd.C_of_reads (enc := Value.int .u8) (d := (0 : Int)) (h1 := fun _ => rfl) h, fun h => Kd.reads_of_C (enc := Value.int .u8) (d := (0 : Int)) (h1 := fun _ => rfl) h⟩
/-- a sector cut out -/
theorem mid_run (A : Option Addr) (c : Nat) (x : By) (hc : x.length ≤ c) (i : Nat) (hi : (i + 1) * 16 ≤ x.length) :
    ∃ A' : Option Addr, (∀ W : World, (Instr.slice 22 (.slice A x.length c) (some (.int .i64 ((i : Int) * 16))) (some (.int .i64 (((i : Int) + 1) * 16))) none).run Try.prog W = .ok (.slice A' 16 (c - i * 16)) W) ∧ (∀ w : World, CB w A x.length x → CB w A' 16 (sec x i)) := by
  obtain ⟨inf, hi1, hi2⟩ := u8info
  obtain ⟨A', h1, h2, _⟩ := print_mid_int (P := Try.prog) (k := .u8) 22 5 Try.underlying22 hi1 hi2 A c x ((i : Int) * 16) (((i : Int) + 1) * 16) (by omega) (by omega) (by omega) hc
  have e1 : ((i : Int) * 16).toNat = i * 16 := by omega
  have e2 : (((i : Int) + 1) * 16).toNat = (i + 1) * 16 := by omega
  have e3 : (x.take ((i + 1) * 16)).drop (i * 16) = sec x i := by
    unfold sec
    rw [List.drop_take, show (i + 1) * 16 - i * 16 = 16 by omega]
  rw [e1, e2, e3, sec_len x i hi] at h1
  rw [e1, e2, e3, sec_len x i hi] at h2
  exact ⟨A', h1, fun w hw => reads_CB.1 (h2 w (reads_CB.2 hw))⟩
end Go.Proofs.Ytpchobikpamfcaa.Sk
