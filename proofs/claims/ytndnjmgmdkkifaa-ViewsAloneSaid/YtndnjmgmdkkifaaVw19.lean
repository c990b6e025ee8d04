/- The walk of greatLog. -/
import Derived.Test.YtndnjmgmdkkifaaVw12
namespace Go.Proofs.Ytndnjmgmdkkifaa.Vw1
open Go Go.RowKit Go.Maps Go.Proofs Go.Proofs.Ytndnjmgmdkkifaa.New Go.Proofs.Ytndnjmgmdkkifaa.Vw Go.Proofs.Ytndnjmgmdkkifaa.Vw0 Go.Proofs.YtndnjmgmdkkifaaW.PrintWords Go.Proofs.YtndnjmgmdkkifaaW.PrintLast Go.Proofs.YtndnjmgmdkkifaaW.PrintMore
set_option linter.unusedVariables false
set_option linter.unusedSimpArgs false

def mins : Log → Nat
  | [] => 0
  | s :: l => min s.size 30000 + mins l
def greatB (l : Log) : Bool := decide (30000 ≤ l.length + mins l) || decide (200 < l.length)
theorem mins_snoc : ∀ (l : Log) (z : ByteArray), mins (l ++ [z]) = mins l + min z.size 30000
  | [], z => by simp [mins]
  | x :: l, z => by
    have := mins_snoc l z
    simp only [List.cons_append, mins, this]
    omega
theorem mins_take (l : Log) (i : Nat) (h : i < l.length) : mins (l.take (i + 1)) = mins (l.take i) + min l[i].size 30000 := by
  rw [List.take_succ_eq_append_getElem h, mins_snoc]
theorem mins_app : ∀ (a b : Log), mins (a ++ b) = mins a + mins b
  | [], b => by simp [mins]
  | x :: a, b => by
    have := mins_app a b
    simp only [List.cons_append, mins, this]
    omega
theorem mins_le (l : Log) (i : Nat) : mins (l.take i) ≤ mins l := by
  have := mins_app (l.take i) (l.drop i)
  rw [List.take_append_drop] at this
  omega
/-- what is not great -/
theorem great_no {l : Log} (h : greatB l = false) : l.length ≤ 200 ∧ ∀ s ∈ l, s.size ≤ 30000 := by
  unfold greatB at h
  simp only [Bool.or_eq_false_iff, decide_eq_false_iff_not] at h
  refine ⟨by omega, fun s hs => ?_⟩
  have key : ∀ (l : Log), s ∈ l → min s.size 30000 ≤ mins l := fun l => by
    induction l with
    | nil => intro h; cases h
    | cons x l ih =>
      intro h
      rcases List.mem_cons.1 h with rfl | h
      · simp only [mins]; omega
      · have := ih h
        simp only [mins]; omega
  have := key l hs
  have : 0 < l.length := List.length_pos_of_mem hs
  omega
set_option maxHeartbeats 4000000 in
set_option maxRecDepth 100000 in
theorem great_calls {W : World} (A : Option Addr) (c : Nat) (l : Log) (h : Kd.C Kd.string W A l.length l) (hl : l.length ≤ 100000000000000) :
    Calls Try.prog 11 #[.slice A l.length c] W fun e w' => e = .returned (.bool (greatB l)) ∧ w' = W := by
  have HR := Lib.hid h
  clear h
  go_enter Try.func11, Try.ntmps11
  go_wp2_with fail
  go_loopg [3, 4] (l.length) (fun gg s3 s4 wr => ∃ i n : Nat, i ≤ l.length ∧ l.length - i ≤ gg ∧ s4 = .int .i64 i ∧ s3 = .int .i64 n ∧ n ≤ 100000000060000 ∧ Hid (n = l.length + mins (l.take i)) ∧ wr = W)
  case atStart => exact ⟨0, l.length, Nat.zero_le _, by omega, rfl, rfl, by omega, (show Hid _ from by simp [Hid, mins]), rfl⟩
  case round =>
    obtain ⟨i, n, hi, hg, rfl, rfl, hn, hE, rfl⟩ := hrel
    by_cases hlt : i < l.length
    · have hltz : decide ((i : Int) < (l.length : Int)) = true := decide_eq_true (by omega)
      by_cases hn2 : n < 30000
      · have hnz : decide ((n : Int) < 30000) = true := decide_eq_true (by omega)
        obtain ⟨ad, ea, hx⟩ := Kd.at_string HR.out (i : Int) (by omega) (by omega)
        have hrd : rdOf ByteArray.empty l (i : Int) = l[i] := by unfold rdOf; simp [hlt]
        have hm := mins_take l i hlt
        rw [hrd] at hx
        simp only [Int.toNat_natCast] at hx
        obtain ⟨x, hxx⟩ : ∃ x, l[i] = x := ⟨_, rfl⟩
        rw [hxx] at hx hm
        have HD := Lib.hid (show n + min x.size 30000 = l.length + mins (l.take (i + 1)) by rw [hm, hE.out]; omega)
        clear hm hxx hrd
        cases ea
        go_wp2_with fail
        go_roundg (l.length - (i + 1))
        case measure => omega
        case rel => exact ⟨i + 1, n + min x.size 30000, by omega, by omega, by go_num, by go_num, by omega, HD.out, rfl⟩
      · have hnz : decide ((n : Int) < 30000) = false := decide_eq_false (by omega)
        have hnz2 : decide ((n : Int) ≥ 30000) = true := decide_eq_true (by omega)
        have HD := Lib.hid (show greatB l = true by
          unfold greatB
          have := mins_le l i
          have := hE.out
          rw [decide_eq_true (by omega), Bool.true_or])
        go_wp2_with fail
        go_ret
        exact ⟨by rw [HD.out]; rfl, rfl⟩
    · have hltz : decide ((i : Int) < (l.length : Int)) = false := decide_eq_false (by omega)
      have HD := Lib.hid (show greatB l = (decide ((n : Int) ≥ 30000) || decide ((l.length : Int) > 200)) by
        unfold greatB
        have := hE.out
        rw [List.take_of_length_le (by omega)] at this
        rw [Bool.eq_iff_iff]
        simp
        omega)
      by_cases c1 : n ≥ 30000
      · have hnz2 : decide ((n : Int) ≥ 30000) = true := decide_eq_true (by omega)
        go_wp2_with fail
        go_ret
        exact ⟨by rw [HD.out, hnz2]; rfl, rfl⟩
      · have hnz2 : decide ((n : Int) ≥ 30000) = false := decide_eq_false (by omega)
        go_wp2_with fail
        go_ret
        exact ⟨by rw [HD.out, hnz2]; rfl, rfl⟩
end Go.Proofs.Ytndnjmgmdkkifaa.Vw1
