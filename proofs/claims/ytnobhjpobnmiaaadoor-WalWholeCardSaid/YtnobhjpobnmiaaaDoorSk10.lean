/- A disk in memory: the walks of Write, New. -/
import Derived.Test.YtnobhjpobnmiaaaDoorSk9
import Derived.Deep.OwnRows
namespace Go.Proofs.YtnobhjpobnmiaaaDoor.Sk
open Go Go.RowKit Go.Maps Go.Proofs Go.Proofs.YtnobhjpobnmiaaaDoorW.PrintWords Go.Proofs.YtnobhjpobnmiaaaDoorW.PrintLast Go.Proofs.YtnobhjpobnmiaaaDoorW.PrintMore
set_option linter.unusedVariables false
set_option linter.unusedSimpArgs false

section
variable {W W' : World} {p g cap m : Nat} {s t : D}
theorem ok_did (o : Ok s) : Ok s.did := ⟨o.n1, o.n2, o.bl, o.ol, o.br, o.or_, (tick_range o.fl o.fu).1, (tick_range o.fl o.fu).2, o.clean⟩
/-- the world behind Write's three boxes -/
def w3 (W : World) (p : Nat) (a : Int) (A : Option Addr) (n c : Nat) : World := ((W.alloc (.cells #[.pointer (some ⟨p, 0, none⟩)] 24)).alloc (.cells #[.int .i64 a] 3)).alloc (.cells #[.slice A n c] 22)
theorem w3_below (W : World) (p : Nat) (a : Int) (A : Option Addr) (n c : Nat) : Below W.heap.size W (w3 W p a A n c) := below_alloc (below_alloc (below_alloc (Below.refl _ _) _) _) _
theorem size_alloc (W : World) (o : Obj) : (W.alloc o).heap.size = W.heap.size + 1 := by show (W.heap.push _).size = _; rw [Array.size_push]
theorem w3_cap (W : World) (p k : Nat) (A : Option Addr) (n c : Nat) : Cap (w3 W p (k : Int) A n c) p (W.heap.size + 1) (W.heap.size + 2) W.heap.size k A n c := by
  have e1 := size_alloc W (.cells #[.pointer (some ⟨p, 0, none⟩)] 24)
  have e2 := size_alloc (W.alloc (.cells #[.pointer (some ⟨p, 0, none⟩)] 24)) (.cells #[.int .i64 (k : Int)] 3)
  have b1 := blk_new W (.cells #[.pointer (some ⟨p, 0, none⟩)] 24)
  have b2 := blk_new (W.alloc (.cells #[.pointer (some ⟨p, 0, none⟩)] 24)) (.cells #[.int .i64 (k : Int)] 3)
  have b3 := blk_new ((W.alloc (.cells #[.pointer (some ⟨p, 0, none⟩)] 24)).alloc (.cells #[.int .i64 (k : Int)] 3)) (.cells #[.slice A n c] 22)
  have h1 := blk_below (blk_below b1 (below_alloc (Below.refl _ _) (.cells #[.int .i64 (k : Int)] 3))) (below_alloc (Below.refl _ _) (.cells #[.slice A n c] 22))
  have h2 := blk_below b2 (below_alloc (Below.refl _ _) (.cells #[.slice A n c] 22))
  rw [e1] at h2
  rw [e2, e1] at b3
  exact ⟨h2, b3, h1⟩
set_option maxHeartbeats 4000000 in
set_option maxRecDepth 100000 in
theorem write_calls (h : SR W p g cap m s) (o : Ok s) (ha : s.acts ≤ 1000000000) (a : Int) (x : By) {A : Option Addr} {c : Nat} (hx : CB W A x.length x) (hA : ∀ ad, A = some ad → 0 < x.length → ad.block ≠ p ∧ ad.block ≠ g ∧ ad.block ≠ m) :
    Calls Tryd.prog 50 #[.pointer (some ⟨p, 0, none⟩), .int .i64 a, .slice A x.length c] W fun e w' => e = .returned (.int .i64 (s.write a x).2) ∧ SR w' p g cap m (s.write a x).1 ∧ Fr W w' p g m := by
  have hb3 := w3_below W p a A x.length c
  have hs3 := h.below hb3
  have hxl : (x.length : Int) ≤ 9223372036854775807 := by have := hx.2.1; omega
  have HF3 := Lib.hid (Fr.of_below (p := p) (g := g) (m := m) hb3)
  have hw3 : w3 W p a A x.length c = ((W.alloc (.cells #[.pointer (some ⟨p, 0, none⟩)] 24)).alloc (.cells #[.int .i64 a] 3)).alloc (.cells #[.slice A x.length c] 22) := rfl
  have hbl : s.b.length ≤ 65536 := by have := o.bl; have := o.n2; omega
  cases hoff : s.off with
  | true =>
    have e : s.write a x = ({ s with down := true }, 31) := by unfold D.write; rw [if_pos hoff]
    rw [e]
    have HC := Lib.hid (fun fn => act_off hs3 hoff fn)
    have key : s.down = true ∨ (s.down = false ∧ (s.fuse == 0) = true) := by
      unfold D.off at hoff
      cases hd : s.down with
      | true => exact .inl rfl
      | false => rw [hd] at hoff; exact .inr ⟨rfl, by simpa using hoff⟩
    obtain ⟨_, _, _, h3, h4⟩ := cells5 hs3.blk
    obtain ⟨dn, hdn⟩ : ∃ d, s.down = d := ⟨_, rfl⟩
    obtain ⟨fu, hfu⟩ : ∃ d, s.fuse = d := ⟨_, rfl⟩
    rw [hdn] at h4 key
    rw [hfu] at h3 key
    rw [hw3] at h3 h4 HC HF3
    obtain ⟨n, hn⟩ : ∃ n, x.length = n := ⟨_, rfl⟩
    rw [hn] at h3 h4 HC HF3 hxl ⊢
    clear h hb3 hs3 hoff e hdn hfu hw3 o ha hx hA hbl hn
    rcases key with rfl | ⟨rfl, k2⟩
    · by_cases c0 : fu = 0
      · go_enter Tryd.func50, Tryd.ntmps50
        go_wp2_with (go_at_call 51; refine (HC.out _).mono ?_; rintro e w' ⟨rfl, h1, h2⟩)
        go_ret
        exact ⟨rfl, h1, HF3.out.trans h2⟩
      · go_enter Tryd.func50, Tryd.ntmps50
        go_wp2_with (go_at_call 51; refine (HC.out _).mono ?_; rintro e w' ⟨rfl, h1, h2⟩)
        go_ret
        exact ⟨rfl, h1, HF3.out.trans h2⟩
    · have k2 : fu = 0 := by simpa using k2
      go_enter Tryd.func50, Tryd.ntmps50
      go_wp2_with (go_at_call 51; refine (HC.out _).mono ?_; rintro e w' ⟨rfl, h1, h2⟩)
      go_ret
      exact ⟨rfl, h1, HF3.out.trans h2⟩
  | false =>
    have HW := Lib.hid (within_calls hs3 hbl a x.length)
    obtain ⟨_, _, _, h3, h4⟩ := cells5 hs3.blk
    have key : s.down = false ∧ (s.fuse == 0) = false := by
      unfold D.off at hoff
      exact Bool.or_eq_false_iff.1 hoff
    cases hwi : within s.b.length a x.length with
    | false =>
      have e : s.write a x = (s, 1) := by unfold D.write; rw [if_neg (by rw [hoff]; decide), if_neg (by rw [hwi]; decide)]
      rw [e]
      rw [hwi] at HW
      have HS := Lib.hid hs3
      obtain ⟨dn, hdn⟩ : ∃ d, s.down = d := ⟨_, rfl⟩
      obtain ⟨fu, hfu⟩ : ∃ d, s.fuse = d := ⟨_, rfl⟩
      rw [hdn] at h4 key
      rw [hfu] at h3 key
      rw [hw3] at h3 h4 HF3 HW HS
      obtain ⟨n, hn⟩ : ∃ n, x.length = n := ⟨_, rfl⟩
      rw [hn] at h3 h4 HF3 HW HS hxl ⊢
      obtain ⟨rfl, kf⟩ := key
      have kf : ¬ fu = 0 := by simpa using kf
      clear h hb3 hs3 hoff e hdn hfu hw3 o ha hx hA hbl hn hwi
      go_enter Tryd.func50, Tryd.ntmps50
      go_wp2_with (go_at_call 39; refine HW.out.mono ?_; rintro e w' ⟨rfl, rfl⟩)
      go_ret
      exact ⟨rfl, HS.out, HF3.out⟩
    | true =>
      have e : s.write a x = ({ s.did with b := splice s.b a.toNat x, wet := marks s.wet a.toNat x.length }, 0) := by unfold D.write; rw [if_neg (by rw [hoff]; decide), if_pos hwi]
      rw [e]
      rw [hwi] at HW
      obtain ⟨w1, w2, w3_, w4⟩ := within_iff hwi
      obtain ⟨k, rfl⟩ : ∃ k : Nat, a = (k : Int) := ⟨a.toNat, by omega⟩
      rw [Int.toNat_natCast]
      have hfit : k + x.length ≤ s.b.length := by omega
      have HC := Lib.hid (act_write hs3 o ha hoff (W.heap.size + 1) (W.heap.size + 2) W.heap.size (fun w' => SR w' p g cap m { s.did with b := splice s.b k x, wet := marks s.wet k x.length } ∧ Fr (w3 W p k A x.length c) w' p g m) (fun w hw hf => by
        have hx3 := CB.fr hx (HF3.out.trans hf) hA (cb_lt hx)
        exact (write1_calls hw (ok_did o) ((w3_cap W p k A x.length c).fr hs3 hf) hfit x hx3 hA).mono fun e w2 ⟨k1, k2, k3⟩ => ⟨k1, k2, hf.trans k3⟩))
      obtain ⟨dn, hdn⟩ : ∃ d, s.down = d := ⟨_, rfl⟩
      obtain ⟨fu, hfu⟩ : ∃ d, s.fuse = d := ⟨_, rfl⟩
      rw [hdn] at h4 key
      rw [hfu] at h3 key
      rw [hw3] at h3 h4 HF3 HW HC
      obtain ⟨n, hn⟩ : ∃ n, x.length = n := ⟨_, rfl⟩
      rw [hn] at h3 h4 HF3 HW HC hxl ⊢
      obtain ⟨rfl, kf⟩ := key
      have kf : ¬ fu = 0 := by simpa using kf
      clear h hb3 hs3 hoff e hdn hfu hw3 o ha hx hA hbl hn hwi w1 w2 w3_ w4 hfit
      go_enter Tryd.func50, Tryd.ntmps50
      go_wp2_with (first | (go_at_call 39; refine HW.out.mono ?_; rintro e w' ⟨rfl, rfl⟩) | (go_at_call 51; refine HC.out.mono ?_; rintro e w' ⟨rfl, h1, h2⟩))
      go_ret
      exact ⟨rfl, h1, HF3.out.trans h2⟩
/-! ### New -/
theorem rep_cells (n : Nat) : madeCells #[.int .u8 0] n = (enc (List.replicate n 0)).toArray := by
  apply Array.ext
  · rw [size_madeCells]; simp [enc]
  · intro i h1 h2
    simp [madeCells, enc, Nat.mod_one]
theorem make_run (n : Nat) (hn : n ≤ 1000000000) (w : World) : (Instr.makeSlice 22 (.int .i64 (n : Int)) (.int .i64 (n : Int))).run Tryd.prog w = .ok (.slice (some ⟨w.heap.size, 0, none⟩) n n) (w.alloc (.cells (enc (List.replicate n 0)).toArray 5)) := by
  obtain ⟨i, hi, hz0, hz1, hz2⟩ := info_parts (show (Tryd.prog.info? 5).map (fun i => (i.zero, i.size, i.bytes)) = some (some (.int .u8 0), 1, 1) from by kernel_rfl)
  rw [run_make w 22 5 i (.int .u8 0) Tryd.underlying22 hi hz0 .i64 .i64 (n : Int) (n : Int) (by omega) (by omega) (by rw [hz2]; omega) (by omega), Int.toNat_natCast, hz1, Nat.mul_one, ← rep_cells]
  rfl
theorem row_rep (w : World) (n : Nat) : Row (w.alloc (.cells (enc (List.replicate n 0)).toArray 5)) w.heap.size n (List.replicate n 0) := ⟨[], by rw [List.append_nil]; exact blk_new w _, by simp⟩
theorem okLen_new (n : Nat) (h1 : 1 ≤ n) (h2 : n ≤ 4096) : okLen (n * 16) = true := by
  unfold okLen
  rw [decide_eq_true (by omega), show n * 16 % 16 = 0 by omega, decide_eq_true (by omega)]
  rfl
set_option maxHeartbeats 2000000 in
set_option maxRecDepth 100000 in
theorem new_calls (n : Nat) (h1 : 1 ≤ n) (h2 : n ≤ 4096) (W : World) : Calls Tryd.prog 36 #[.int .i64 (n : Int)] W fun e w' => ∃ p g cap m, e = .returned (.pointer (some ⟨p, 0, none⟩)) ∧ SR w' p g cap m (made (List.replicate (n * 16) 0)) ∧ W.heap.size ≤ p ∧ W.heap.size ≤ g ∧ W.heap.size ≤ m ∧ Below W.heap.size W w' := by
  have hl : (List.replicate (n * 16) (0 : Int)).length = n * 16 := List.length_replicate
  have hC := (row_rep W (n * 16)).CB (by rw [hl]; omega)
  have hof := of_calls (some ⟨W.heap.size, 0, none⟩) (n * 16) (List.replicate (n * 16) 0) hC (by rw [hl]; exact okLen_new n h1 h2)
  rw [hl] at hof
  have HO := Lib.hid hof
  have HB := Lib.hid (below_alloc (Below.refl W.heap.size W) (.cells (enc (List.replicate (n * 16) 0)).toArray 5))
  have hmk := make_run (n * 16) (by omega) W
  have hsz : W.heap.size ≤ (W.alloc (.cells (enc (List.replicate (n * 16) 0)).toArray 5)).heap.size := by rw [size_alloc]; omega
  have HSZ := Lib.hid hsz
  obtain ⟨ob, hob⟩ : ∃ ob, Obj.cells (enc (List.replicate (n * 16) 0)).toArray 5 = ob := ⟨_, rfl⟩
  rw [hob] at HO HB hmk HSZ
  rw [show ((n * 16 : Nat) : Int) = (n : Int) * 16 by omega] at hmk
  have q1 : 1 ≤ (n : Int) := by omega
  have q2 : (n : Int) ≤ 4096 := by omega
  clear hof hC hl hob hsz
  go_enter Tryd.func36, Tryd.ntmps36
  go_wp2_with (go_at_call 10; refine HO.out.mono ?_; rintro e w' ⟨p, g, cap, m, rfl, k1, k2, k3, k4, k5⟩)
  go_ret
  exact ⟨p, g, cap, m, rfl, k1, Nat.le_trans HSZ.out k2, Nat.le_trans HSZ.out k3, Nat.le_trans HSZ.out k4, below_step HB.out k5⟩
set_option maxHeartbeats 2000000 in
set_option maxRecDepth 100000 in
theorem new_nil (n : Int) (h : n < 1 ∨ 4096 < n) (W : World) : Calls Tryd.prog 36 #[.int .i64 n] W fun e w' => e = .returned (.pointer none) ∧ w' = W := by
  by_cases c : n < 1
  · clear h
    go_enter Tryd.func36, Tryd.ntmps36
    go_wp2_with fail
    go_ret
    exact ⟨rfl, rfl⟩
  · have c2 : n > 4096 := by omega
    clear h
    go_enter Tryd.func36, Tryd.ntmps36
    go_wp2_with fail
    go_ret
    exact ⟨rfl, rfl⟩
end
end Go.Proofs.YtnobhjpobnmiaaaDoor.Sk
