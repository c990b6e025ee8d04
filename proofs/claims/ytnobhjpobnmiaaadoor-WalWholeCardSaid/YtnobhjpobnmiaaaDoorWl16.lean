/- A disk and its log in memory, as the laws see them; a new one. -/
import Derived.Test.YtnobhjpobnmiaaaDoorWlS
namespace Go.Proofs.YtnobhjpobnmiaaaDoor.Wl
open Go Go.RowKit Go.Maps Go.Proofs Go.Proofs.YtnobhjpobnmiaaaDoor.Sk Go.Proofs.YtnobhjpobnmiaaaDoorW.PrintWords Go.Proofs.YtnobhjpobnmiaaaDoorW.PrintLast Go.Proofs.YtnobhjpobnmiaaaDoorW.PrintMore
set_option linter.unusedVariables false
set_option linter.unusedSimpArgs false

theorem append_ok {s : D} (h : Ok s) (G : LS) {b : By} (hb : ∀ y ∈ b, 0 ≤ y ∧ y ≤ 255) : Ok (appendD s G b).1 := by
  unfold appendD
  split
  · exact h
  · split
    · exact h
    · exact putD_ok h _ _ hb
theorem startP_ok {s : D} (h : Ok s) {a : Nat} (ha : a ≤ 1) {b : By} (hb : ∀ y ∈ b, 0 ≤ y ∧ y ≤ 255) : Ok (startP s a b).1 := by
  unfold startP
  have h1 := wst_ok h (((1 + a * half s.b.length + 0) * 16 : Nat) : Int) (zer (half s.b.length * 16)) (zer_range _)
  refine thn_ok Ok h1 ?_
  have h2 := putD_ok h1 ((1 + a * half s.b.length + 0) * 16) 0 hb
  refine thn_ok Ok h2 ?_
  have h3 := wst_ok h2 ((0 : Nat) : Int) (sign a) (sign_range ha)
  refine thn_ok Ok h3 ?_
  have h4 := ok_sync h3
  exact thn_ok Ok h4 h4
theorem start_ok {s : D} (h : Ok s) (G : LS) {b : By} (hb : ∀ y ∈ b, 0 ≤ y ∧ y ≤ 255) : Ok (startD s G b).1 := by
  unfold startD
  split
  · exact h
  · split
    · exact h
    · exact startP_ok h (by omega) hb
/-- a disk and its log -/
structure SYS (B : Nat) (W : World) (p g cap m q : Nat) (s : D) (G : LS) (v : Value) (ok : Nat → Prop) : Prop where
  sr : SR W p g cap m s
  o : Ok s
  lb : LB W q p G v ok
  hok : ∀ k, ok k → B ≤ k ∧ k ≠ p ∧ k ≠ g ∧ k ≠ m ∧ k ≠ q
  hB : B ≤ p ∧ B ≤ g ∧ B ≤ m ∧ B ≤ q
section
variable {B : Nat} {W W' w : World} {p g cap m q : Nat} {s : D} {G : LS} {v : Value} {ok : Nat → Prop}
theorem SYS.below (h : SYS B W p g cap m q s G v ok) (hb : Below W.heap.size W W') : SYS B W' p g cap m q s G v ok := ⟨h.sr.below hb, h.o, h.lb.step hb, h.hok, h.hB⟩
theorem SYS.own (h : SYS B W p g cap m q s G v ok) : ∀ i, Own p g m q ok i → B ≤ i := fun i hi => by
  rcases hi with rfl | rfl | rfl | rfl | hi
  · exact h.hB.1
  · exact h.hB.2.1
  · exact h.hB.2.2.1
  · exact h.hB.2.2.2
  · exact (h.hok i hi).1
theorem SYS.le (h : SYS B W p g cap m q s G v ok) : B ≤ W.heap.size := Nat.le_trans h.hB.1 (Nat.le_of_lt h.sr.lt.1)
theorem SYS.next {s' : D} {G' : LS} {v' : Value} (h : SYS B W p g cap m q s G v ok) (hs : SR W' p g cap m s') (o' : Ok s') (hl : LB W' q p G' v' (fun k => ok k ∨ W.heap.size ≤ k)) : SYS B W' p g cap m q s' G' v' (fun k => ok k ∨ W.heap.size ≤ k) :=
  ⟨hs, o', hl, fun k hk => by
    rcases hk with hk | hk
    · exact h.hok k hk
    · have := h.sr.lt
      have := h.le
      have := blk_lt h.lb.blk
      omega, h.hB⟩
theorem SYS.lg (h : SYS B W p g cap m q s G v ok) : LG W q p g m G.area v G.l G.t := ⟨h.lb.blk, Kd.R_mono h.lb.rows (fun k hk => (h.hok k hk).2.2.1)⟩
theorem SYS.append (h : SYS B W p g cap m q s G v ok) (ha : s.acts ≤ 999999980) (ha1 : G.area ≤ 1) (ht : G.t ≤ 100000) (hl : G.l.length ≤ 100000)
    {A : Option Addr} {c : Nat} (b : By) (hb : CB W A b.length b) (hbr : ∀ y ∈ b, 0 ≤ y ∧ y ≤ 255) (hbl : b.length ≤ 1000000) (hA : ∀ ad, A = some ad → 0 < b.length → ad.block ≠ p ∧ ad.block ≠ g ∧ ad.block ≠ m) :
    Calls Tryd.prog 13 #[.pointer (some ⟨q, 0, none⟩), .slice A b.length c] W fun e w' => e = .returned (.int .i64 (appendD s G b).2.1) ∧ (∃ v', SYS B w' p g cap m q (appendD s G b).1 (appendD s G b).2.2 v' (fun k => ok k ∨ W.heap.size ≤ k)) ∧ Kp W w' (Own p g m q ok) := by
  refine (append_calls h.sr h.o (by omega) h.lb (fun k hk => (h.hok k hk).2) ha1 ht hl b hb hbr hbl hA).mono ?_
  rintro e w' ⟨he, hs, ⟨v', hl'⟩, hk⟩
  exact ⟨he, ⟨v', h.next hs (append_ok h.o G hbr) hl'⟩, hk⟩
theorem SYS.start (h : SYS B W p g cap m q s G v ok) (ha : s.acts ≤ 999999980) (ha1 : G.area ≤ 1) (ht : G.t ≤ 100000)
    {A : Option Addr} {c : Nat} (b : By) (hb : CB W A b.length b) (hbr : ∀ y ∈ b, 0 ≤ y ∧ y ≤ 255) (hbl : b.length ≤ 1000000) (hA : ∀ ad, A = some ad → 0 < b.length → ad.block ≠ p ∧ ad.block ≠ g ∧ ad.block ≠ m) :
    Calls Tryd.prog 16 #[.pointer (some ⟨q, 0, none⟩), .slice A b.length c] W fun e w' => e = .returned (.int .i64 (startD s G b).2.1) ∧ (∃ v', SYS B w' p g cap m q (startD s G b).1 (startD s G b).2.2 v' (fun k => ok k ∨ W.heap.size ≤ k)) ∧ Kp W w' (Own p g m q ok) := by
  refine (start_calls h.sr h.o ha h.lb (fun k hk => (h.hok k hk).2) ha1 ht b hb hbr hbl hA).mono ?_
  rintro e w' ⟨he, hs, ⟨v', hl'⟩, hk⟩
  exact ⟨he, ⟨v', h.next hs (start_ok h.o G hbr) hl'⟩, hk⟩
/-- Open, where it finds a log and nothing is done -/
theorem open_still {a t : Nat} {l : List By} (h : SR W p g cap m s) (o : Ok s) (ha : s.acts ≤ 999999990) (hB : B ≤ p ∧ B ≤ g ∧ B ≤ m) (he : openD s = (some ⟨a, l, t⟩, 0, s)) :
    Calls Tryd.prog 11 #[.pointer (some ⟨p, 0, none⟩)] W fun e w' => ∃ q v, e = .returned (.tuple #[.pointer (some ⟨q, 0, none⟩), .int .i64 0]) ∧ W.heap.size ≤ q ∧ SYS B w' p g cap m q s ⟨a, l, t⟩ v (fun k => W.heap.size ≤ k ∧ k ≠ q) ∧ Fr W w' p g m := by
  refine (open_calls h o ha).mono ?_
  rintro e w' ⟨hs, hf, hx⟩
  rw [he] at hs hx
  obtain ⟨q, v, rfl, hq, hl⟩ := hx
  refine ⟨q, v, rfl, hq, ⟨hs, o, ⟨hl.blk, Kd.R_types hl.rows hl.blk (by decide)⟩, fun k hk => ?_, hB.1, hB.2.1, hB.2.2, ?_⟩, hf⟩
  · have := h.lt
    exact ⟨by omega, by omega, by omega, by omega, hk.2⟩
  · have := h.lt
    omega
theorem made_up (n : Nat) : Up (made (zer (n * 16))) := ⟨rfl, rfl⟩
theorem made_ok (n : Nat) (h1 : 3 ≤ n) (h2 : n ≤ 4096) : Ok (made (zer (n * 16))) := ok_made (by unfold okLen; rw [zer_len]; simp; omega) (zer_range _)
set_option maxHeartbeats 4000000 in
set_option maxRecDepth 100000 in
theorem begin_calls (n : Nat) (h1 : 3 ≤ n) (h2 : n ≤ 4096) (W : World) : Calls Tryd.prog 15 #[.int .i64 (n : Int)] W fun e w' => ∃ p g cap m q v ok, e = .returned (.tuple #[.pointer (some ⟨p, 0, none⟩), .pointer (some ⟨q, 0, none⟩), .bool true]) ∧
    SYS W.heap.size w' p g cap m q (made (zer (n * 16))) ⟨0, [], 0⟩ v ok ∧ Below W.heap.size W w' := by
  have HN := Lib.hid (new_calls n (by omega) h2 W)
  have HO := Lib.hid (made_ok n h1 h2)
  have hg := made_good n h1
  have HE := Lib.hid (open_good (s := made (zer (n * 16))) rfl hg (made_clean n h1) (by show (zer (n * 16)).length ≤ _; rw [zer_len]; omega))
  clear hg
  go_enter Tryd.func15, Tryd.ntmps15
  go_upto_region 4 with (go_at_call 36; refine HN.out.mono ?_; rintro e w1 ⟨p, g, cap, m, rfl, hs, hp, hg, hm, hb⟩; have HS := Lib.hid hs; have HP := Lib.hid (And.intro hp (And.intro hg hm)); have HB := Lib.hid hb; clear hs hp hg hm hb)
  have HOP := Lib.hid (open_still (B := W.heap.size) HS.out HO.out (Nat.zero_le _) HP.out HE.out)
  go_wp2_with (go_at_call 11; refine HOP.out.mono ?_; rintro e w2 ⟨q, v, rfl, hq, hy, hf⟩; have HY := Lib.hid hy; have HF := Lib.hid hf; clear hq hy hf)
  go_ret3
  exact ⟨p, g, cap, m, q, v, _, rfl, HY.out, HB.out.trans (HF.out.to_below HP.out.1 HP.out.2.1 HP.out.2.2 HB.out.size)⟩
end
end Go.Proofs.YtnobhjpobnmiaaaDoor.Wl
