/- A log in memory: the walks of its small functions. -/
import Derived.Test.YtnobhjpobnmiaaaDoorSk12
import Derived.Test.YtnobhjpobnmiaaaDoorWl0
namespace Go.Proofs.YtnobhjpobnmiaaaDoor.Wl
open Go Go.RowKit Go.Maps Go.Proofs Go.Proofs.YtnobhjpobnmiaaaDoor.Sk Go.Proofs.YtnobhjpobnmiaaaDoorW.PrintWords Go.Proofs.YtnobhjpobnmiaaaDoorW.PrintLast Go.Proofs.YtnobhjpobnmiaaaDoorW.PrintMore
set_option linter.unusedVariables false
set_option linter.unusedSimpArgs false

section
variable {W W' w : World} {p g cap m : Nat} {s : D}
set_option maxHeartbeats 1000000 in
set_option maxRecDepth 100000 in
theorem half_calls (h : SR W p g cap m s) (o : Ok s) : Calls Tryd.prog 29 #[.pointer (some ⟨p, 0, none⟩)] W fun e w' => e = .returned (.int .i64 (half s.b.length : Int)) ∧ w' = W := by
  have HS := Lib.hid (size_calls h)
  obtain ⟨n, hn⟩ : ∃ n, s.b.length = n := ⟨_, rfl⟩
  have hnl : n ≤ 65536 := by have := o.bl; have := o.n2; omega
  have hn1 : 16 ≤ n := by have := o.bl; have := o.n1; omega
  rw [hn] at HS ⊢
  have HE := Lib.hid (show ((half n : Nat) : Int) = ((n : Int) / 16 - 1) / 2 by unfold half; omega)
  have q : 0 ≤ (n : Int) := by omega
  have q1 : 0 ≤ (n : Int) / 16 - 1 := by omega
  have q2 : IntKind.i64.wrap ((n : Int) / 16 - 1) = (n : Int) / 16 - 1 := IntWalk.i64_in _ (by omega)
  clear h o hn
  go_enter Tryd.func29, Tryd.ntmps29
  go_wp2_with (go_at_call 24; refine HS.out.mono ?_; rintro e w' ⟨rfl, rfl⟩)
  go_ret
  exact ⟨by rw [HE.out]; rfl, rfl⟩
theorem half_le {n : Nat} (h : n ≤ 65536) : half n ≤ 2048 := by unfold half; omega
set_option maxHeartbeats 1000000 in
set_option maxRecDepth 100000 in
theorem where_calls (h : SR W p g cap m s) (o : Ok s) (a n : Nat) (ha : a ≤ 1) (hn : n ≤ 1000000) : Calls Tryd.prog 28 #[.pointer (some ⟨p, 0, none⟩), .int .i64 (a : Int), .int .i64 (n : Int)] W fun e w' => e = .returned (.int .i64 (((1 + a * half s.b.length + n) * 16 : Nat) : Int)) ∧ w' = W := by
  have HS := Lib.hid (half_calls h o)
  have hl : half s.b.length ≤ 2048 := half_le (by have := o.bl; have := o.n2; omega)
  obtain ⟨k, hk⟩ : ∃ k, half s.b.length = k := ⟨_, rfl⟩
  rw [hk] at HS hl ⊢
  have hak : a * k ≤ 2048 := by
    rcases (show a = 0 ∨ a = 1 by omega) with rfl | rfl <;> omega
  obtain ⟨x, hx⟩ : ∃ x, a * k = x := ⟨_, rfl⟩
  have hx2 : (a : Int) * (k : Int) = (x : Int) := by rw [← hx]; simp
  have HE := Lib.hid (show (((1 + a * k + n) * 16 : Nat) : Int) = (1 + (x : Int) + (n : Int)) * 16 by rw [hx]; omega)
  have q1 : IntKind.i64.wrap ((a : Int) * (k : Int)) = (x : Int) := by rw [hx2]; exact IntWalk.i64_in _ (by omega)
  rw [hx] at hak
  clear h o hk hx
  go_enter Tryd.func28, Tryd.ntmps28
  go_wp2_with (go_at_call 29; refine HS.out.mono ?_; rintro e w' ⟨rfl, rfl⟩)
  go_ret
  exact ⟨by rw [HE.out]; rfl, rfl⟩
set_option maxHeartbeats 1000000 in
set_option maxRecDepth 100000 in
theorem need_calls (n : Nat) (hn : n ≤ 5000000000) (W : World) : Calls Tryd.prog 34 #[.int .i64 (n : Int)] W fun e w' => e = .returned (.int .i64 (need n : Int)) ∧ w' = W := by
  have HE := Lib.hid (show ((need n : Nat) : Int) = 1 + ((n : Int) + 15) / 16 by unfold need; omega)
  have q : 0 ≤ (n : Int) + 16 - 1 := by omega
  have e1 : (n : Int) + 16 - 1 = (n : Int) + 15 := by omega
  go_enter Tryd.func34, Tryd.ntmps34
  go_wp2_with fail
  go_ret
  exact ⟨by rw [HE.out]; first | rfl | simp [e1], rfl⟩
set_option maxHeartbeats 1000000 in
set_option maxRecDepth 100000 in
theorem number_calls (A : Option Addr) (c : Nat) (b : By) (h : CB W A b.length b) (hb : ∀ y ∈ b, 0 ≤ y ∧ y ≤ 255) : Calls Tryd.prog 47 #[.slice A b.length c] W fun e w' => e = .returned (.int .u32 (num b)) ∧ w' = W := by
  have H := Lib.hid h
  have HB := Lib.hid hb
  obtain ⟨n, hn⟩ : ∃ n, b.length = n := ⟨_, rfl⟩
  have hn9 : (n : Int) ≤ 9223372036854775807 := by have := h.2.1; omega
  rw [hn] at H ⊢
  have HN := Lib.hid hn
  clear h hn hb
  go_enter Tryd.func47, Tryd.ntmps47
  go_wp2_with fail
  go_loopg [3, 8] n (fun gg s3 s8 wr => ∃ (i : Nat) (x : Int), i ≤ n ∧ n - i ≤ gg ∧ s8 = .int .i64 i ∧ s3 = .int .u32 x ∧ 0 ≤ x ∧ x ≤ 4294967295 ∧ Hid (x = num (b.take i)) ∧ wr = W)
  case atStart => exact ⟨0, 0, Nat.zero_le _, by omega, rfl, rfl, by omega, by omega, rfl, rfl⟩
  case round =>
    obtain ⟨i, x, hi, hgg, rfl, rfl, hx0, hx1, HX, rfl⟩ := hrel
    by_cases hlt : i < n
    · have hltz : decide ((i : Int) < (n : Int)) = true := decide_eq_true (by omega)
      obtain ⟨y, hy⟩ : ∃ y, b[i]? = some y := ⟨_, List.getElem?_eq_getElem (by rw [HN.out]; exact hlt)⟩
      obtain ⟨ad, ea, hc⟩ := Kd.at_int H.out (i : Int) (by omega) (by omega)
      have hrd : rd b (i : Int) = y := by unfold rd; rw [Int.toNat_natCast, List.getD_eq_getElem?_getD, hy]; rfl
      rw [hrd, Int.toNat_natCast] at hc
      cases ea
      have hyr := HB.out y (List.mem_of_getElem? hy)
      have HS := Lib.hid (show num (b.take (i + 1)) = x * 256 % 4294967296 + y by rw [List.take_add_one, hy]; show num (b.take i ++ [y]) = _; rw [num_snoc, HX.out])
      have ho := or_byte x y hyr
      clear hy hrd
      go_wp2_with fail
      go_roundg (n - (i + 1))
      case measure => omega
      case rel => exact ⟨i + 1, x * 256 % 4294967296 + y, by omega, by omega, by go_num, by first | rfl | rw [ho], by omega, by omega, HS.out.symm, rfl⟩
    · have hltz : decide ((i : Int) < (n : Int)) = false := decide_eq_false (by omega)
      have HS := Lib.hid (show num b = x by rw [HX.out, List.take_of_length_le (by rw [HN.out]; omega)])
      go_wp2_with fail
      go_ret
      exact ⟨by rw [HS.out]; rfl, rfl⟩
/-! ### check.Sum -/
theorem step_x (x c : Int) (x0 : 0 ≤ x) (x1 : x < 65521) (hc : 0 ≤ c ∧ c ≤ 255) : (((x + c) % 4294967296 + 1) % 4294967296) % 65521 = (x + c + 1) % 65521 := by omega
theorem step_y (z y : Int) (y0 : 0 ≤ y) (y1 : y < 65521) (z0 : 0 ≤ z) (z1 : z < 65521) : ((y + z) % 4294967296) % 65521 = (y + z) % 65521 := by omega
set_option maxHeartbeats 1000000 in
set_option maxRecDepth 100000 in
theorem sum_calls (a : Int) (ha : 0 ≤ a ∧ a ≤ 65535) (A : Option Addr) (c : Nat) (b : By) (h : CB W A b.length b) (hb : ∀ y ∈ b, 0 ≤ y ∧ y ≤ 255) : Calls Tryd.prog 60 #[.int .u16 a, .slice A b.length c] W fun e w' => e = .returned (.int .u32 (sum a b)) ∧ w' = W := by
  have H := Lib.hid h
  have HB := Lib.hid hb
  obtain ⟨n, hn⟩ : ∃ n, b.length = n := ⟨_, rfl⟩
  have hn9 : (n : Int) ≤ 9223372036854775807 := by have := h.2.1; omega
  rw [hn] at H ⊢
  have HN := Lib.hid hn
  obtain ⟨a1, a2⟩ := ha
  have e0 : (a + 1) % 4294967296 = a + 1 := by omega
  obtain ⟨x0, hx0⟩ : ∃ x, (a + 1) % 65521 = x := ⟨_, rfl⟩
  have HX0 := Lib.hid hx0
  have r0 : 0 ≤ x0 := by omega
  have r1 : x0 < 65521 := by omega
  clear h hn hb
  go_enter Tryd.func60, Tryd.ntmps60
  go_wp2_with fail
  go_loopg [5, 6, 15] n (fun gg s5 s6 s15 wr => ∃ (i : Nat) (x y : Int), i ≤ n ∧ n - i ≤ gg ∧ s15 = .int .i64 i ∧ s5 = .int .u32 x ∧ s6 = .int .u32 y ∧ 0 ≤ x ∧ x < 65521 ∧ 0 ≤ y ∧ y < 65521 ∧ Hid (run (b.take i) x0 1 = (x, y)) ∧ wr = W)
  case atStart => exact ⟨0, x0, 1, Nat.zero_le _, by omega, rfl, by first | rfl | rw [hx0], rfl, r0, r1, by omega, by omega, rfl, rfl⟩
  case round =>
    obtain ⟨i, x, y, hi, hgg, rfl, rfl, rfl, p0, p1, p2, p3, HX, rfl⟩ := hrel
    by_cases hlt : i < n
    · have hltz : decide ((i : Int) < (n : Int)) = true := decide_eq_true (by omega)
      obtain ⟨z, hz⟩ : ∃ z, b[i]? = some z := ⟨_, List.getElem?_eq_getElem (by rw [HN.out]; exact hlt)⟩
      obtain ⟨ad, ea, hc⟩ := Kd.at_int H.out (i : Int) (by omega) (by omega)
      have hrd : rd b (i : Int) = z := by unfold rd; rw [Int.toNat_natCast, List.getD_eq_getElem?_getD, hz]; rfl
      rw [hrd, Int.toNat_natCast] at hc
      cases ea
      have hzr := HB.out z (List.mem_of_getElem? hz)
      have HS := Lib.hid (show run (b.take (i + 1)) x0 1 = ((x + z + 1) % 65521, (y + (x + z + 1) % 65521) % 65521) by rw [List.take_add_one, hz]; show run (b.take i ++ [z]) _ _ = _; rw [run_snoc, HX.out])
      have e1 : (x + z) % 4294967296 = x + z := by omega
      have e2 : (x + z + 1) % 4294967296 = x + z + 1 := by omega
      obtain ⟨x', hx'⟩ : ∃ x', (x + z + 1) % 65521 = x' := ⟨_, rfl⟩
      have v0 : 0 ≤ x' := by omega
      have v1 : x' < 65521 := by omega
      have e3 : (y + x') % 4294967296 = y + x' := by omega
      rw [hx'] at HS
      have e4 : z % 4294967296 = z := by omega
      clear hz hrd
      go_wp2_with fail
      go_roundg (n - (i + 1))
      case measure => omega
      case rel => exact ⟨i + 1, x', (y + x') % 65521, by omega, by omega, by go_num, by first | rfl | rw [hx'], by first | rfl | rw [hx'], v0, v1, by omega, by omega, HS.out, rfl⟩
    · have hltz : decide ((i : Int) < (n : Int)) = false := decide_eq_false (by omega)
      have HS := Lib.hid (show sum a b = y * 65536 + x by
        have h := HX.out
        rw [List.take_of_length_le (by rw [HN.out]; omega)] at h
        unfold sum
        rw [HX0.out, h])
      have ho := or_add x y p0 p1 p2 p3
      rw [show y * 65536 % 4294967296 = y * 65536 by omega] at ho
      go_wp2_with fail
      go_ret
      exact ⟨by rw [HS.out]; first | rfl | (rw [← ho]; rfl), rfl⟩
/-! ### put -/
theorem row_step {wr : World} {gb cb : Nat} {b x : By} {o i : Nat} {v : Int} (h : Row wr gb cb (splice b o (x.take i))) (hb : But W wr gb) (hx : o + x.length ≤ b.length) (hi : x[i]? = some v) :
    Row (wr.setCell ⟨gb, o + i, none⟩ (.int .u8 v)) gb cb (splice b o (x.take (i + 1))) ∧ But W (wr.setCell ⟨gb, o + i, none⟩ (.int .u8 v)) gb := by
  have hil := (List.getElem?_eq_some_iff.1 hi).1
  have hl : (splice b o (x.take i)).length = b.length := splice_len _ _ _ (by rw [List.length_take]; omega)
  refine ⟨?_, by rw [World.size_setCell]; exact hb.size, fun k hk => (Below.heap_setCell wr ⟨gb, o + i, none⟩ _ k hk).trans (hb.block k hk), hb.os, hb.tape, hb.output⟩
  rw [← splice_more b x o i v hx hi]
  exact h.put (o + i) (by omega) v
set_option maxHeartbeats 1000000 in
set_option maxRecDepth 100000 in
theorem put_calls {gb cb : Nat} {b : By} (h : Row W gb cb b) (hbl : b.length ≤ 65536) (o : Nat) (ho : o + 4 ≤ b.length) (c : Nat) (n : Int) (hn : 0 ≤ n ∧ n ≤ 4294967295) :
    Calls Tryd.prog 59 #[.slice (some ⟨gb, o, none⟩) 4 c, .int .u32 n] W fun e w' => e = .returned (.tuple #[]) ∧ Row w' gb cb (splice b o (four n)) ∧ But W w' gb := by
  have H := Lib.hid h
  obtain ⟨n0, n1⟩ := hn
  have HO := Lib.hid ho
  clear h ho
  go_enter Tryd.func59, Tryd.ntmps59
  go_wp2_with fail
  go_loopg [7] 4 (fun gg s7 wr => ∃ i : Nat, i ≤ 4 ∧ 4 - i ≤ gg ∧ s7 = .int .i64 i ∧ Hid (Row wr gb cb (splice b o ((four n).take i))) ∧ Hid (But W wr gb))
  case atStart => exact ⟨0, by omega, by omega, rfl, Lib.hid (by rw [List.take_zero, splice_nil]; exact H.out), Lib.hid ⟨rfl, fun _ _ => rfl, rfl, rfl, rfl⟩⟩
  case round =>
    obtain ⟨i, hi, hgg, rfl, HR, HB⟩ := hrel
    by_cases hlt : i < 4
    · have hltz : decide ((i : Int) < 4) = true := decide_eq_true (by omega)
      rcases (show i = 0 ∨ i = 1 ∨ i = 2 ∨ i = 3 by omega) with rfl | rfl | rfl | rfl
      · have hv : (four n)[0]? = some (n / 16777216) := by show some (n / 16777216 % 256) = some (n / 16777216); congr 1; omega
        have HS := Lib.hid (row_step HR.out HB.out (o := o) (i := 0) (by show o + 4 ≤ _; exact HO.out) hv)
        have hl : (splice b o ((four n).take 0)).length = b.length := splice_len _ _ _ (by rw [List.length_take]; show o + min 0 4 ≤ _; have := HO.out; omega)
        have fz := HR.out.frozen (o + 0)
        have oc := HR.out.cell (o + 0) (by rw [hl]; have := HO.out; omega)
        obtain ⟨ob, hob⟩ : ∃ v, (splice b o ((four n).take 0))[o + 0]'(by rw [hl]; have := HO.out; omega) = v := ⟨_, rfl⟩
        rw [hob] at oc
        rw [Nat.add_zero] at HS fz oc
        clear hl hob hv
        go_wp2_with fail
        go_roundg (4 - (0 + 1))
        case measure => omega
        case rel => exact ⟨1, by omega, by omega, by first | rfl | go_num, Lib.hid HS.out.1, Lib.hid HS.out.2⟩
      · have hv : (four n)[1]? = some (n / 65536 % 256) := rfl
        have HS := Lib.hid (row_step HR.out HB.out (o := o) (i := 1) (by show o + 4 ≤ _; exact HO.out) hv)
        have hl : (splice b o ((four n).take 1)).length = b.length := splice_len _ _ _ (by rw [List.length_take]; show o + min 1 4 ≤ _; have := HO.out; omega)
        have fz := HR.out.frozen (o + 1)
        have oc := HR.out.cell (o + 1) (by rw [hl]; have := HO.out; omega)
        obtain ⟨ob, hob⟩ : ∃ v, (splice b o ((four n).take 1))[o + 1]'(by rw [hl]; have := HO.out; omega) = v := ⟨_, rfl⟩
        rw [hob] at oc
        clear hl hob hv
        go_wp2_with fail
        go_roundg (4 - (1 + 1))
        case measure => omega
        case rel => exact ⟨2, by omega, by omega, by first | rfl | go_num, Lib.hid HS.out.1, Lib.hid HS.out.2⟩
      · have hv : (four n)[2]? = some (n / 256 % 256) := rfl
        have HS := Lib.hid (row_step HR.out HB.out (o := o) (i := 2) (by show o + 4 ≤ _; exact HO.out) hv)
        have hl : (splice b o ((four n).take 2)).length = b.length := splice_len _ _ _ (by rw [List.length_take]; show o + min 2 4 ≤ _; have := HO.out; omega)
        have fz := HR.out.frozen (o + 2)
        have oc := HR.out.cell (o + 2) (by rw [hl]; have := HO.out; omega)
        obtain ⟨ob, hob⟩ : ∃ v, (splice b o ((four n).take 2))[o + 2]'(by rw [hl]; have := HO.out; omega) = v := ⟨_, rfl⟩
        rw [hob] at oc
        clear hl hob hv
        go_wp2_with fail
        go_roundg (4 - (2 + 1))
        case measure => omega
        case rel => exact ⟨3, by omega, by omega, by first | rfl | go_num, Lib.hid HS.out.1, Lib.hid HS.out.2⟩
      · have hv : (four n)[3]? = some (n % 256) := rfl
        have HS := Lib.hid (row_step HR.out HB.out (o := o) (i := 3) (by show o + 4 ≤ _; exact HO.out) hv)
        have hl : (splice b o ((four n).take 3)).length = b.length := splice_len _ _ _ (by rw [List.length_take]; show o + min 3 4 ≤ _; have := HO.out; omega)
        have fz := HR.out.frozen (o + 3)
        have oc := HR.out.cell (o + 3) (by rw [hl]; have := HO.out; omega)
        obtain ⟨ob, hob⟩ : ∃ v, (splice b o ((four n).take 3))[o + 3]'(by rw [hl]; have := HO.out; omega) = v := ⟨_, rfl⟩
        rw [hob] at oc
        clear hl hob hv
        go_wp2_with fail
        go_roundg (4 - (3 + 1))
        case measure => omega
        case rel => exact ⟨4, by omega, by omega, by first | rfl | go_num, Lib.hid HS.out.1, Lib.hid HS.out.2⟩
    · obtain rfl : i = 4 := by omega
      have HF := Lib.hid (show Row wr gb cb (splice b o (four n)) from HR.out)
      go_wp2_with fail
      go_end0
      exact ⟨rfl, HF.out, HB.out⟩
end
end Go.Proofs.YtnobhjpobnmiaaaDoor.Wl
