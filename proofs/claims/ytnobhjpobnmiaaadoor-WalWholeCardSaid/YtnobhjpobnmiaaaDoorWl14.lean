/- A log in memory: Start's steps. -/
import Derived.Test.YtnobhjpobnmiaaaDoorWl13
namespace Go.Proofs.YtnobhjpobnmiaaaDoor.Wl
open Go Go.RowKit Go.Maps Go.Proofs Go.Proofs.YtnobhjpobnmiaaaDoor.Sk Go.Proofs.YtnobhjpobnmiaaaDoorW.PrintWords Go.Proofs.YtnobhjpobnmiaaaDoorW.PrintLast Go.Proofs.YtnobhjpobnmiaaaDoorW.PrintMore
set_option linter.unusedVariables false
set_option linter.unusedSimpArgs false

theorem write_len {s : D} (h : Ok s) (a : Int) (x : By) : (s.write a x).1.b.length = s.b.length := by
  unfold D.write
  split
  · rfl
  · split
    · next hw =>
      obtain ⟨w1, w2, w3, w4⟩ := Sk.within_iff hw
      exact splice_len _ _ _ (by omega)
    · rfl
theorem wst_len {s : D} (h : Ok s) (a : Int) (x : By) : (wst s a x).1.b.length = s.b.length := by
  unfold wst
  split
  · rfl
  · exact write_len h a x
theorem sync_len (s : D) : s.sync.1.b.length = s.b.length := by unfold D.sync; split <;> rfl
theorem thn_ok {r : D × Int} {f : D → D × Int} (P : D → Prop) (h : P r.1) (hf : P (f r.1).1) : P (thn r f).1 := by
  unfold thn
  split
  · exact hf
  · exact h
theorem putD_ok {s : D} (h : Ok s) (a k : Nat) {b : By} (hb : ∀ y ∈ b, 0 ≤ y ∧ y ≤ 255) : Ok (putD s a k b).1 := by
  unfold putD
  have h1 := wst_ok h ((a + 16 : Nat) : Int) (pad b) (pad_range hb)
  refine thn_ok Ok h1 ?_
  have h2 := ok_sync h1
  refine thn_ok Ok h2 ?_
  have h3 := wst_ok h2 (a : Int) (hd k b) (hd_range k b)
  refine thn_ok Ok h3 ?_
  have h4 := ok_sync h3
  exact thn_ok Ok h4 h4
theorem putD_len {s : D} (h : Ok s) (a k : Nat) {b : By} (hb : ∀ y ∈ b, 0 ≤ y ∧ y ≤ 255) : (putD s a k b).1.b.length = s.b.length := by
  unfold putD
  have h1 := wst_ok h ((a + 16 : Nat) : Int) (pad b) (pad_range hb)
  have e1 := wst_len h ((a + 16 : Nat) : Int) (pad b)
  refine thn_ok (fun x => x.b.length = s.b.length) e1 ?_
  have h2 := ok_sync h1
  have e2 := (sync_len (wst s ((a + 16 : Nat) : Int) (pad b)).1).trans e1
  refine thn_ok (fun x => x.b.length = s.b.length) e2 ?_
  have h3 := wst_ok h2 (a : Int) (hd k b) (hd_range k b)
  have e3 := (wst_len h2 (a : Int) (hd k b)).trans e2
  refine thn_ok (fun x => x.b.length = s.b.length) e3 ?_
  have e4 := (sync_len (wst (wst s ((a + 16 : Nat) : Int) (pad b)).1.sync.1 (a : Int) (hd k b)).1).trans e3
  exact thn_ok (fun x => x.b.length = s.b.length) e4 e4
theorem putD_acts {s : D} (a k : Nat) (b : By) : (putD s a k b).1.acts ≤ s.acts + 4 := by
  unfold putD
  have e1 := acts_wst (s := s) ((a + 16 : Nat) : Int) (pad b)
  refine thn_ok (fun x => x.acts ≤ s.acts + 4) (by omega) ?_
  have e2 := acts_sync (wst s ((a + 16 : Nat) : Int) (pad b)).1
  refine thn_ok (fun x => x.acts ≤ s.acts + 4) (by omega) ?_
  have e3 := acts_wst (s := (wst s ((a + 16 : Nat) : Int) (pad b)).1.sync.1) (a : Int) (hd k b)
  refine thn_ok (fun x => x.acts ≤ s.acts + 4) (by omega) ?_
  have e4 := acts_sync (wst (wst s ((a + 16 : Nat) : Int) (pad b)).1.sync.1 (a : Int) (hd k b)).1
  have e5 : ∀ x : D, (fin x).1.acts = x.acts := fun _ => rfl
  exact thn_ok (fun x => x.acts ≤ s.acts + 4) (by omega) (by rw [e5]; omega)
theorem zer_len (n : Nat) : (zer n).length = n := by unfold zer; rw [List.length_replicate]
theorem zer_range (n : Nat) : ∀ y ∈ zer n, 0 ≤ y ∧ y ≤ 255 := fun y hy => by have := List.eq_of_mem_replicate hy; omega
theorem sign_range {a : Nat} (ha : a ≤ 1) : ∀ y ∈ sign a, 0 ≤ y ∧ y ≤ 255 := by
  rcases (show a = 0 ∨ a = 1 by omega) with rfl | rfl <;> decide
section
variable {W W' w w0 w1 w2 w3 w4 : World} {p g cap m q : Nat} {s : D}
set_option maxHeartbeats 4000000 in
set_option maxRecDepth 100000 in
theorem start1_calls (h : SR W p g cap m s) (o : Ok s) (ha : s.acts ≤ 999999990) {bl bo bb : Nat} {ar v t : Value} (hq : W.heap[q]? = some (.cells #[.pointer (some ⟨p, 0, none⟩), ar, v, t] 57 (0, 0))) (area : Nat) (ha1 : area ≤ 1)
    {A : Option Addr} {c : Nat} (b : By) (hb : CB W A b.length b) (hbr : ∀ y ∈ b, 0 ≤ y ∧ y ≤ 255) (hbl : b.length ≤ 16384)
    (k1 : W.cell? ⟨bl, 0, none⟩ = some (.pointer (some ⟨q, 0, none⟩))) (k2 : W.cell? ⟨bo, 0, none⟩ = some (.int .i64 (area : Int))) (k3 : W.cell? ⟨bb, 0, none⟩ = some (.slice A b.length c)) :
    Calls Tryd.prog 37 #[.pointer (some ⟨bl, 0, none⟩), .pointer (some ⟨bo, 0, none⟩), .pointer (some ⟨bb, 0, none⟩)] W fun e w' => e = .returned (.int .i64 (putD s ((1 + area * half s.b.length + 0) * 16) 0 b).2) ∧ SR w' p g cap m (putD s ((1 + area * half s.b.length + 0) * 16) 0 b).1 ∧ Fr W w' p g m := by
  have HP := Lib.hid (lput_calls (c := c) h o ha hq area 0 0 ha1 (by decide) (by decide) b hb hbr hbl)
  clear h o ha hq hb hbr hbl
  go_enter Tryd.func37, Tryd.ntmps37
  go_wp2_with (go_at_call 35; refine HP.out.mono ?_; rintro e w' ⟨rfl, h1, h2⟩; have H1 := Lib.hid h1; have H2 := Lib.hid h2; clear h1 h2)
  go_ret
  exact ⟨rfl, H1.out, H2.out⟩
theorem start_steps (h : SR w0 p g cap m s) (o : Ok s) (ha : s.acts ≤ 999999980) {gz z1 gh z3 N area bl bo bb : Nat} (ha1 : area ≤ 1) (hN : half s.b.length * 16 = N) {ar v t : Value} (hq : w0.heap[q]? = some (.cells #[.pointer (some ⟨p, 0, none⟩), ar, v, t] 57 (0, 0)))
    {A : Option Addr} {c : Nat} (b : By) (hb : CB w0 A b.length b) (hA : ∀ ad, A = some ad → 0 < b.length → ad.block ≠ p ∧ ad.block ≠ g ∧ ad.block ≠ m) (hbr : ∀ y ∈ b, 0 ≤ y ∧ y ≤ 255) (hbl : b.length ≤ 16384)
    (k1 : w0.cell? ⟨bl, 0, none⟩ = some (.pointer (some ⟨q, 0, none⟩))) (k2 : w0.cell? ⟨bo, 0, none⟩ = some (.int .i64 (area : Int))) (k3 : w0.cell? ⟨bb, 0, none⟩ = some (.slice A b.length c))
    (n1 : bl ≠ p ∧ bl ≠ g ∧ bl ≠ m) (n2 : bo ≠ p ∧ bo ≠ g ∧ bo ≠ m) (n3 : bb ≠ p ∧ bb ≠ g ∧ bb ≠ m)
    (hgz : w0.heap.size ≤ gz) (hz : Row w1 gz N (zer N)) (hb1 : Below w0.heap.size w0 w1) (hb2 : Below w1.heap.size w1 w2) (hc2 : Cap w2 p (z1 + 1) (z1 + 2) z1 ((1 + area * half s.b.length + 0) * 16) (some ⟨gz, 0, none⟩) N N)
    (hgh : w0.heap.size ≤ gh) (hb3 : Below w2.heap.size w2 w3) (hr : Row w3 gh 16 (sign area)) (hb4 : Below w3.heap.size w3 w4) (hc4 : Cap w4 p (z3 + 1) (z3 + 2) z3 0 (some ⟨gh, 0, none⟩) 16 16) :
    Calls Tryd.prog 31 #[.slice (some ⟨w4.heap.size, 0, none⟩) 4 4] (w4.alloc (.cells #[(St.w (z1 + 2) z1 (z1 + 1)).val, (St.t bl bo bb).val, (St.w (z3 + 2) z3 (z3 + 1)).val, (St.s p).val] 64)) fun e w' => ∃ r, e = .returned r ∧
      r = .int .i64 (startP s area b).2 ∧ SR w' p g cap m (startP s area b).1 ∧ Fr w0 w' p g m := by
  have hl := h.lt
  obtain ⟨ob, hob⟩ : ∃ ob, Obj.cells #[(St.w (z1 + 2) z1 (z1 + 1)).val, (St.t bl bo bb).val, (St.w (z3 + 2) z3 (z3 + 1)).val, (St.s p).val] 64 (0, 0) = ob := ⟨_, rfl⟩
  have hs1 : w0.heap.size ≤ w1.heap.size := hb1.size
  have hs2 : w1.heap.size ≤ w2.heap.size := hb2.size
  have hs3 : w2.heap.size ≤ w3.heap.size := hb3.size
  have hs4 : w3.heap.size ≤ w4.heap.size := hb4.size
  have hb5 : Below w4.heap.size w4 (w4.alloc ob) := below_alloc (Below.refl _ _) ob
  have hqq : (w4.alloc ob).heap[w4.heap.size]? = some ob := blk_new w4 ob
  have hqlt : w4.heap.size < (w4.alloc ob).heap.size := by rw [size_alloc]; omega
  have b3 : Below w3.heap.size w3 (w4.alloc ob) := below_step hb4 hb5
  have b2 : Below w2.heap.size w2 (w4.alloc ob) := below_step hb3 b3
  have b1 : Below w1.heap.size w1 (w4.alloc ob) := below_step hb2 b2
  have b0 : Below w0.heap.size w0 (w4.alloc ob) := below_step hb1 b1
  have hS := h.below b0
  have hC1 := hc2.below b2
  have hC3 := hc4.below hb5
  have hNl : N ≤ 65536 := by have := half_le (n := s.b.length) (by have := o.bl; have := o.n2; omega); omega
  have hR1 := (row_below hz b1).CB (show (zer N).length ≤ 9223372036854775807 by rw [zer_len]; omega)
  have hR3 : CB (w4.alloc ob) (some ⟨gh, 0, none⟩) 16 (sign area) := (row_below hr b3).CB (show (16 : Nat) ≤ _ by decide)
  have hQ := blk_below hq b0
  have hne := sr_ne h hq (by decide) (by decide)
  have hBB := Kd.C_below hb b0
  have kk1 := cell_keep0 b0 k1
  have kk2 := cell_keep0 b0 k2
  have kk3 := cell_keep0 b0 k3
  have hgz3 : gz ≠ p ∧ gz ≠ g ∧ gz ≠ m := ⟨by omega, by omega, by omega⟩
  have hgh3 : gh ≠ p ∧ gh ≠ g ∧ gh ≠ m := ⟨by omega, by omega, by omega⟩
  have hgq : w4.heap.size ≠ p ∧ w4.heap.size ≠ g ∧ w4.heap.size ≠ m := ⟨by omega, by omega, by omega⟩
  have hfs : ([St.w (z1 + 2) z1 (z1 + 1), St.t bl bo bb, St.w (z3 + 2) z3 (z3 + 1), St.s p].map St.val).toArray = #[(St.w (z1 + 2) z1 (z1 + 1)).val, (St.t bl bo bb).val, (St.w (z3 + 2) z3 (z3 + 1)).val, (St.s p).val] := rfl
  generalize hwq : w4.alloc ob = wq at hb5 hqq hqlt b3 b2 b1 b0 hS hC1 hC3 hR1 hR3 hQ hBB kk1 kk2 kk3
  have key : Run ob w4.heap.size [St.w (z1 + 2) z1 (z1 + 1), St.t bl bo bb, St.w (z3 + 2) z3 (z3 + 1), St.s p] wq (Post wq p g cap m (startP s area b)) := by
    have hbq : ∀ w', Fr wq w' p g m → w'.heap[w4.heap.size]? = some ob := fun w' hf => (hf.block _ hqlt hgq.1 hgq.2.1 hgq.2.2).trans hqq
    have hlt : ∀ {x : Nat} {v : Value}, wq.cell? ⟨x, 0, none⟩ = some v → x < wq.heap.size := fun h => World.block_lt_of_cell? wq _ h
    have hck : ∀ {x : Nat} {v : Value} {w' : World}, wq.cell? ⟨x, 0, none⟩ = some v → Fr wq w' p g m → x ≠ p ∧ x ≠ g ∧ x ≠ m → w'.cell? ⟨x, 0, none⟩ = some v := fun hc hf hn => (World.cell?_of_block (a := ⟨_, 0, none⟩) (hf.block _ (hlt hc) hn.1 hn.2.1 hn.2.2)).trans hc
    unfold startP
    rw [hN]
    refine run_thn hqq (Fr.refl _ _ _ _) (w1_calls hS o (by omega) (zer N) (by rw [zer_len]; exact hC1) hR1 (fun ad e _ => by cases e; exact hgz3)) (fun wa _ ka _ fa => ?_)
    have oa := wst_ok o (((1 + area * half s.b.length + 0) * 16 : Nat) : Int) (zer N) (zer_range N)
    have aa := acts_wst (s := s) (((1 + area * half s.b.length + 0) * 16 : Nat) : Int) (zer N)
    have la := wst_len o (((1 + area * half s.b.length + 0) * 16 : Nat) : Int) (zer N)
    have hput := start1_calls (c := c) (bl := bl) (bo := bo) (bb := bb) ka oa (by omega) ((fa.block q (blk_lt hQ) hne.1 hne.2.1 hne.2.2).trans hQ) area ha1 b (CB.fr hBB fa hA (cb_lt hBB)) hbr hbl (hck kk1 fa n1) (hck kk2 fa n2) (hck kk3 fa n3)
    rw [la] at hput
    refine run_thn (hbq _ fa) fa hput (fun wb _ kb _ fb => ?_)
    have ob_ := putD_ok oa ((1 + area * half s.b.length + 0) * 16) 0 hbr
    have ab := putD_acts (s := (wst s (((1 + area * half s.b.length + 0) * 16 : Nat) : Int) (zer N)).1) ((1 + area * half s.b.length + 0) * 16) 0 b
    refine run_thn (hbq _ fb) fb (w1_calls kb ob_ (by omega) (sign area) (hC3.fr hS fb) (CB.fr hR3 fb (fun ad e _ => by cases e; exact hgh3) (cb_lt hR3)) (fun ad e _ => by cases e; exact hgh3)) (fun wc _ kc _ fc => ?_)
    have oc := wst_ok ob_ ((0 : Nat) : Int) (sign area) (sign_range ha1)
    have ac := acts_wst (s := (putD (wst s (((1 + area * half s.b.length + 0) * 16 : Nat) : Int) (zer N)).1 ((1 + area * half s.b.length + 0) * 16) 0 b).1) ((0 : Nat) : Int) (sign area)
    exact run_thn (hbq _ fc) fc (sync_calls kc oc (by omega)) (fun wd _ kd _ fd => run_fin kd fd)
  have hst := steps_calls w4.heap.size [St.w (z1 + 2) z1 (z1 + 1), St.t bl bo bb, St.w (z3 + 2) z3 (z3 + 1), St.s p] (show (4 : Nat) ≤ 100 by decide) wq _ (by rw [hfs, hob]; exact key)
  show Calls _ _ _ (w4.alloc (Obj.cells _ _ (0, 0))) _
  rw [hob, hwq]
  refine hst.mono ?_
  rintro e w' ⟨r, rfl, hr, k1, k2⟩
  exact ⟨_, rfl, by rw [hr], k1, (Fr.of_below b0).trans k2⟩
end
end Go.Proofs.YtnobhjpobnmiaaaDoor.Wl
