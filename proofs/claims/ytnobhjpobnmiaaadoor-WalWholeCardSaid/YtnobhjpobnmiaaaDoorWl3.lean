/- bytes.Trim of zeros. -/
import Derived.Test.YtnobhjpobnmiaaaDoorWl2
namespace Go.Proofs.YtnobhjpobnmiaaaDoor.Wl
open Go Go.RowKit Go.Maps Go.Proofs Go.Proofs.YtnobhjpobnmiaaaDoor.Sk Go.Proofs.YtnobhjpobnmiaaaDoorW.PrintWords Go.Proofs.YtnobhjpobnmiaaaDoorW.PrintLast Go.Proofs.YtnobhjpobnmiaaaDoorW.PrintMore
set_option linter.unusedVariables false
set_option linter.unusedSimpArgs false

section
variable {W W' w : World} {g cap : Nat} {b : By}
set_option maxHeartbeats 1000000 in
set_option maxRecDepth 100000 in
theorem right_calls (h : Row W g cap b) (o n c : Nat) (hn : o + n ≤ b.length) (hc : n ≤ c) (hc2 : c ≤ 9223372036854775807) : Calls Tryd.prog 41 #[.slice (some ⟨g, o, none⟩) n c, .int .u8 0] W fun e w' =>
    (∃ m, m ≤ n ∧ e = .returned (.slice (some ⟨g, o, none⟩) m c) ∧ (∀ i, m ≤ i → i < n → b.getD (o + i) 0 = 0) ∧ (0 < m → b.getD (o + m - 1) 0 ≠ 0)) ∧ w' = W := by
  have H := Lib.hid h
  have HN := Lib.hid hn
  clear h hn
  go_enter Tryd.func41, Tryd.ntmps41
  go_wp2_with fail
  go_loopg [0] n (fun gg s0 wr => ∃ m : Nat, m ≤ n ∧ m ≤ gg ∧ s0 = .slice (some ⟨g, o, none⟩) m c ∧ Hid (∀ i, m ≤ i → i < n → b.getD (o + i) 0 = 0) ∧ wr = W)
  case atStart => exact ⟨n, Nat.le_refl _, Nat.le_refl _, rfl, Lib.hid (fun i h1 h2 => by omega), rfl⟩
  case round =>
    obtain ⟨m, hm, hgg, rfl, HZ, rfl⟩ := hrel
    rcases Nat.eq_zero_or_pos m with rfl | hp
    · go_wp2_with fail
      go_ret
      exact ⟨⟨0, Nat.zero_le _, rfl, HZ.out, fun h => absurd h (Nat.lt_irrefl 0)⟩, rfl⟩
    · obtain ⟨y, hy⟩ : ∃ y, b.getD (o + (m - 1)) 0 = y := ⟨_, rfl⟩
      have hlt : o + (m - 1) < b.length := by have := HN.out; omega
      have hcell := H.out.cell (o + (m - 1)) hlt
      have hyy : b[o + (m - 1)]'hlt = y := by rw [← hy, List.getD_eq_getElem?_getD, List.getElem?_eq_getElem hlt]; rfl
      rw [hyy] at hcell
      have q1 : 0 < (m : Int) := by omega
      have q2 : ((m : Int) - 1).toNat = m - 1 := by omega
      have HY := Lib.hid hy
      clear hy hyy hlt
      by_cases h0 : y = 0
      · subst h0
        go_wp2_with fail
        go_roundg (m - 1)
        case measure => omega
        case rel => exact ⟨m - 1, by omega, by omega, by go_num, Lib.hid (fun i h1 h2 => if e : i = m - 1 then by rw [e]; exact HY.out else HZ.out i (by omega) h2), rfl⟩
      · go_wp2_with fail
        go_ret
        exact ⟨⟨m, hm, rfl, HZ.out, fun _ => by rw [show o + m - 1 = o + (m - 1) by omega, HY.out]; exact h0⟩, rfl⟩
set_option maxHeartbeats 1000000 in
set_option maxRecDepth 100000 in
theorem left_nil (n c : Nat) (A : Option Addr) (hc2 : c ≤ 9223372036854775807) (W : World) : Calls Tryd.prog 40 #[.slice A 0 c, .int .u8 0] W fun e w' => e = .returned (.slice none 0 0) ∧ w' = W := by
  go_enter Tryd.func40, Tryd.ntmps40
  go_wp2_with fail
  go_loopg [0] 0 (fun gg s0 wr => s0 = .slice A 0 c ∧ wr = W)
  case atStart => exact ⟨rfl, rfl⟩
  case round =>
    obtain ⟨rfl, rfl⟩ := hrel
    go_wp2_with fail
    go_ret
    exact ⟨rfl, rfl⟩
set_option maxHeartbeats 1000000 in
set_option maxRecDepth 100000 in
theorem left_calls (h : Row W g cap b) (o n c : Nat) (hn : o + n ≤ b.length) (hc : n ≤ c) (hc2 : c ≤ 9223372036854775807) (h0 : 0 < n) (hz : b.getD (o + n - 1) 0 ≠ 0) : Calls Tryd.prog 40 #[.slice (some ⟨g, o, none⟩) n c, .int .u8 0] W fun e w' =>
    (∃ A k c', 0 < k ∧ e = .returned (.slice A k c')) ∧ w' = W := by
  have H := Lib.hid h
  have HN := Lib.hid hn
  have HZ := Lib.hid hz
  clear h hn hz
  go_enter Tryd.func40, Tryd.ntmps40
  go_wp2_with fail
  go_loopg [0] n (fun gg s0 wr => ∃ i : Nat, i < n ∧ n - i ≤ gg ∧ s0 = .slice (some ⟨g, o + i, none⟩) (n - i) (c - i) ∧ wr = W)
  case atStart => exact ⟨0, h0, Nat.le_refl _, rfl, rfl⟩
  case round =>
    obtain ⟨i, hi, hgg, rfl, rfl⟩ := hrel
    obtain ⟨y, hy⟩ : ∃ y, b.getD (o + i) 0 = y := ⟨_, rfl⟩
    have hlt : o + i < b.length := by have := HN.out; omega
    have hcell := H.out.cell (o + i) hlt
    have hyy : b[o + i]'hlt = y := by rw [← hy, List.getD_eq_getElem?_getD, List.getElem?_eq_getElem hlt]; rfl
    rw [hyy] at hcell
    have HY := Lib.hid hy
    clear hy hyy hlt
    obtain ⟨k, hk⟩ : ∃ k, n - i = k := ⟨_, rfl⟩
    obtain ⟨d, hd⟩ : ∃ d, c - i = d := ⟨_, rfl⟩
    rw [hk, hd]
    have HK := Lib.hid hk
    have HD := Lib.hid hd
    have q1 : 0 < k := by omega
    have q2 : k ≤ d := by omega
    have q3 : d ≤ 9223372036854775807 := by omega
    clear hk hd
    by_cases h0 : y = 0
    · subst h0
      have q5 : 1 < k := by
        rcases Nat.lt_or_ge 1 k with h | h
        · exact h
        · exact absurd (by have := HK.out; rw [show o + n - 1 = o + i by omega]; exact HY.out) HZ.out
      have q4 : ¬ (d - 1 = 0) := by omega
      go_wp2_with fail
      go_roundg (n - (i + 1))
      case measure => omega
      case rel => exact ⟨i + 1, by have := HK.out; omega, by omega, by have := HK.out; have := HD.out; rw [show n - (i + 1) = k - 1 by omega, show c - (i + 1) = d - 1 by omega]; first | rfl | go_num, rfl⟩
    · go_wp2_with fail
      go_ret
      exact ⟨⟨_, k, _, q1, rfl⟩, rfl⟩
theorem left_any (h : Row W g cap b) (o n c : Nat) (hn : o + n ≤ b.length) (hc : n ≤ c) (hc2 : c ≤ 9223372036854775807) (hz : 0 < n → b.getD (o + n - 1) 0 ≠ 0) : Calls Tryd.prog 40 #[.slice (some ⟨g, o, none⟩) n c, .int .u8 0] W fun e w' =>
    (∃ A k c', (0 < k ↔ 0 < n) ∧ e = .returned (.slice A k c')) ∧ w' = W := by
  rcases Nat.eq_zero_or_pos n with rfl | hp
  · exact (left_nil 0 c _ hc2 W).mono fun e w' hh => ⟨⟨_, 0, _, Iff.rfl, hh.1⟩, hh.2⟩
  · exact (left_calls h o n c hn hc hc2 hp (hz hp)).mono fun e w' ⟨⟨A, k, c', hk, he⟩, hw⟩ => ⟨⟨A, k, c', ⟨fun _ => hp, fun _ => hk⟩, he⟩, hw⟩
def nz (b : By) : Prop := ∃ y ∈ b, y ≠ 0
theorem nz_of {o n m : Nat} (hn : o + n = b.length) (hm : m ≤ n) (h1 : ∀ i, m ≤ i → i < n → b.getD (o + i) 0 = 0) (h2 : 0 < m → b.getD (o + m - 1) 0 ≠ 0) : (0 < m ↔ nz (b.drop o)) := by
  constructor
  · intro hp
    refine ⟨b.getD (o + m - 1) 0, ?_, h2 hp⟩
    have hlt : o + m - 1 < b.length := by omega
    rw [List.getD_eq_getElem?_getD, List.getElem?_eq_getElem hlt, Option.getD_some]
    refine List.mem_iff_getElem?.2 ⟨m - 1, ?_⟩
    rw [List.getElem?_drop, show o + (m - 1) = o + m - 1 by omega, List.getElem?_eq_getElem hlt]
  · rintro ⟨y, hy, hy0⟩
    rcases Nat.eq_zero_or_pos m with rfl | hp
    · obtain ⟨i, hi⟩ := List.mem_iff_getElem?.1 hy
      rw [List.getElem?_drop] at hi
      have hlt := (List.getElem?_eq_some_iff.1 hi).1
      exact absurd (by have := h1 i (Nat.zero_le _) (by omega); rw [List.getD_eq_getElem?_getD, hi] at this; exact this) hy0
    · exact hp
set_option maxHeartbeats 1000000 in
set_option maxRecDepth 100000 in
theorem trim_calls (h : Row W g cap b) (o n c : Nat) (hn : o + n = b.length) (hc : n ≤ c) (hc2 : c ≤ 9223372036854775807) : Calls Tryd.prog 27 #[.slice (some ⟨g, o, none⟩) n c, .string ⟨#[0]⟩] W fun e w' =>
    (∃ A k c', (0 < k ↔ nz (b.drop o)) ∧ e = .returned (.slice A k c')) ∧ Below W.heap.size W w' := by
  have HR := Lib.hid (fun w' (hw : Below W.heap.size W w') => right_calls (h.keep (hw.block g h.lt)) o n c (by omega) hc hc2)
  have HL := Lib.hid (fun w' (hw : Below W.heap.size W w') m (hm : m ≤ n) (hz : 0 < m → b.getD (o + m - 1) 0 ≠ 0) => left_any (h.keep (hw.block g h.lt)) o m c (by omega) (by omega) hc2 hz)
  have HZ := Lib.hid (fun m (hm : m ≤ n) h1 h2 => nz_of (b := b) hn hm h1 h2)
  have HN := Lib.hid hn
  clear h hn
  go_enter Tryd.func27, Tryd.ntmps27
  rcases Nat.eq_zero_or_pos n with rfl | hp
  · go_wp2_with fail
    go_ret
    refine ⟨⟨_, 0, _, ⟨fun h => absurd h (Nat.lt_irrefl 0), fun h => ?_⟩, rfl⟩, Below.refl _ _⟩
    obtain ⟨y, hy, _⟩ := h
    rw [List.drop_of_length_le (by have := HN.out; omega)] at hy
    cases hy
  · have q1 : ¬ ((n : Int) = 0) := by omega
    go_upto_region 6 with (fail)
    go_region_held (fun w' => Hid (Below W.heap.size W w'))
      (first | exact Lib.hid ⟨rfl, rfl, rfl, Nat.le_refl _, fun _ _ => rfl⟩ | assumption)
      (first | (go_at_call 41; go_split_ands; (refine (HR.out _ (Hid.out (by assumption))).mono ?_); rintro e w' ⟨⟨m, hm, rfl, hz1, hz2⟩, rfl⟩) | (go_at_call 40; go_split_ands; (refine (HL.out _ (Hid.out (by assumption)) m hm hz2).mono ?_); rintro e w' ⟨⟨A, k, c', hk, rfl⟩, rfl⟩))
    all_goals (
      go_split_ands
      go_wp2_with fail
      go_ret
      exact ⟨⟨_, k, _, hk.trans (HZ.out m hm hz1 hz2), rfl⟩, Hid.out (by assumption)⟩)
end
end Go.Proofs.YtnobhjpobnmiaaaDoor.Wl
